/- Our texts, joined by a program of ours (join.py): part 8 of 8. -/
import Derived.Test.YtjampheggjpjdaaGreatDoorTextG
import Derived.Deep.Draws
import Derived.Lib.IndexMore
import Derived.Lib.Join
import Derived.Lib.Bytealg
import Derived.Laws.AppendOwn
import Derived.Sort.EncStr
import Derived.Sort.Grow
import Derived.Sort.Row
import Derived.Shelf.GgSortFunc.InsertionK
import Derived.Lib.ParseIntB
import Derived.Lib.AtoiErrMem
set_option linter.unusedVariables false
/- Package cupellaw08: Small, Made. -/
namespace Go.Ag
open Go
variable {T : Tab} {L : Lnk}
structure MadeFns (T : Tab) : Prop extends AliFns2 T, ParseFns T, TypeFns T, PFns T, SizFns T where
 h147 : T.has 147 c_147
 h148 : T.has 148 c_148
 h190 : T.has 190 c_190
 h145 : T.has 145 c_145
def defOf (d : DeclA) : Bytes × TA := (d.name, d.ts.headD zeroT)
def defsOf (l : List DeclA) : List (Bytes × TA) := (l.filter (·.kind == 2)).map defOf
theorem defsOf_snoc (l : List DeclA) (j : Nat) (h : j < l.length) : defsOf (l.take (j + 1)) = if l[j].kind == 2 then defsOf (l.take j) ++ [defOf l[j]] else defsOf (l.take j) := by
 rw [List.take_succ_eq_append_getElem h]
 unfold defsOf
 rw [List.filter_append]
 cases hk : l[j].kind == 2
 ·rw [if_neg (by simp), show [l[j]].filter (·.kind == 2) = [] from by simp [List.filter, hk], List.append_nil]
 ·rw [if_pos rfl, show [l[j]].filter (·.kind == 2) = [l[j]] from by simp [List.filter, hk], List.map_append]
  rfl
theorem sized_defVs (l : List (Bytes × TA)) : Sized 5 (defVs l) := fun x hx => by
 obtain ⟨⟨nm, ⟨k, tn, ns, tl⟩⟩, _, rfl⟩ := List.mem_map.1 hx
 exact ⟨rfl, rfl⟩
theorem defVs_len (l : List (Bytes × TA)) : (defVs l).length = l.length := by simp [defVs]
theorem defVs_snoc (l : List (Bytes × TA)) (p : Bytes × TA) : defVs (l ++ [p]) = defVs l ++ [defV p] := by simp [defVs]
theorem decl_at {l : List DeclA} {i : Nat} (h : i < l.length) : (l.map DeclA.av)[((i : Nat) : Int).toNat]? = some l[i].av := by
 simp [List.getElem?_map, List.getElem?_eq_getElem h]
def srcDefs (src : Bytes) : List (Bytes × TA) := defsOf (parse05R src).1
theorem srcDefs_good (src : Bytes) (hs : src.length ≤ 600) : ∀ p ∈ srcDefs src, gName p.1 ∧ GT p.2 ∧ wtT p.2 ≤ 2 ^ 19 := fun p hp => by
 unfold srcDefs defsOf at hp
 obtain ⟨d, hd, rfl⟩ := List.mem_map.1 hp
 obtain ⟨h1, h2⟩ := List.mem_filter.1 hd
 obtain ⟨hn, t, ht, hg, hw⟩ := parse_good src (by omega) d h1 (by simpa using h2)
 unfold defOf
 rw [ht]
 have : (src.length + 82) * (src.length + 1) ≤ 682 * 601 := Nat.mul_le_mul (by omega) (by omega)
 exact ⟨hn, hg, Nat.le_trans hw (by omega)⟩
theorem srcDefs_len (src : Bytes) (hs : src.length ≤ 600) : (srcDefs src).length ≤ 2 ^ 30 := by
 unfold srcDefs defsOf
 rw [List.length_map]
 refine Nat.le_trans (List.length_filter_le _ _) ?_
 obtain ⟨hok, hlen, hdl⟩ := start_ok src (by omega)
 have hrem : (startR src).rem ≤ src.length + 1 := by unfold RS.rem; omega
 have hp : (startR src).pot ≤ (startR src).diags.length + 2 * (startR src).toks.length + 1 := by
  unfold RS.pot
  split <;> omega
 have := (parseGo_small (exprFuel src) (startR src).rem [] (startR src) ⟨hok.lt, hok.more, hok.len, hok.txt, by omega, hok.named, hok.num⟩ rfl (Nat.le_refl _) (fun d hd => by cases hd)).2
 unfold parse05R
 simp at this
 omega
theorem newBy_mem : ∀ {l : List (Bytes × TA)} {p : Bytes × TA}, p ∈ newBy l → ∃ q ∈ l, p = (q.1, normT q.2) := fun {l p} => by
 have key : ∀ (l B : List (Bytes × TA)), p ∈ l.foldl addBy B → p ∈ B ∨ ∃ q ∈ l, p = (q.1, normT q.2) := fun l => by
  induction l with
  | nil => exact fun B h => .inl h
  | cons q l ih =>
   intro B h
   rcases ih _ h with h | ⟨r, hr, e⟩
   ·unfold addBy at h
    split at h
    ·exact .inl h
    ·rcases List.mem_append.1 h with h | h
     ·exact .inl h
     ·rw [List.mem_singleton] at h; exact .inr ⟨q, by simp, h⟩
   ·exact .inr ⟨r, by simp [hr], e⟩
 intro h
 rcases key l [] h with h | h
 ·cases h
 ·exact h
theorem Made_spec (F : MadeFns T) (src : Bytes) (hs : src.length ≤ 600) : ACalls T.L 147 [.str src] [] fun r H' => ∃ e o0 o1, NewOK (newBy (srcDefs src)) e ∧ LowO 0 o0 ∧ LowO 0 o1 ∧ r = .ret (.tup [.ptr 4 0, .lst (defVs (srcDefs src)) .none, .bool (decide ((srcDefs src).length ≤ 8))]) ∧
  H' = [o0, o1, .map (entsT e.by_ 0) e.by_.length, .map (entsE e.empty 0) e.empty.length, .cells [.map 2, .map 3] 234] := by
 have hD := srcDefs_good src hs
 have hDl := srcDefs_len src hs
 have hP := Parse_spec F.toParseFns src (by omega)
 have hP5 := parse05_spec F.toPFns src (by omega)
 have hG := parse_good src (by omega)
 have hPl : (parse05R src).1.length ≤ 2 ^ 33 := (parse_small src (by omega)).2
 have hnew := New_at F.toAliFns2 (srcDefs src) hDl (fun p hp => okN_gt (hD p hp).2.1 (by have := (hD p hp).2.2; omega)) (fun p hp => by
  obtain ⟨q, hq, rfl⟩ := newBy_mem hp
  have h1 := (hD q hq).2.2
  have h2 := wt_normT q.2
  dsimp only
  omega)
 unfold srcDefs at *
 generalize (parse05R src).2.diags.map DiagA.av = DG at hP hP5
 generalize (parse05R src).1 = l at *
 refine ACalls.deads 2 ?_
 refine ACalls.cut (ACalls.mono (Q := fun r H' => ∃ e o0 o1 tk J, NewOK (newBy (defsOf l)) e ∧ LowO 0 o0 ∧ LowO 0 o1 ∧ r = .ret (.tup [.ptr 4 0, .lst (defVs (defsOf l)) tk, .bool (decide ((defsOf l).length ≤ 8))]) ∧
  H' = [o0, o1, .map (entsT e.by_ 0) e.by_.length, .map (entsE e.empty 0) e.empty.length, .cells [.map 2, .map 3] 234] ++ J) ?_ fun r H' ⟨e, o0, o1, tk, J, e1, h0, h1, e2, e3⟩ => ⟨.ret (.tup [.ptr 4 0, .lst (defVs (defsOf l)) .none, .bool (decide ((defsOf l).length ≤ 8))]), [o0, o1, .map (entsT e.by_ 0) e.by_.length, .map (entsE e.empty 0) e.empty.length, .cells [.map 2, .map 3] 234], J, e3, by rw [e2]; exact Weak.tup ⟨Weak.refl _, Weak.tok _ _, Weak.refl _, trivial⟩, .tup _ (LowL.at ⟨.ptr _ _ (show 4 < 5 by decide), .lst _ _ trivial (low_defVs _ _), .bool _, trivial⟩), Nat.le_of_ble_eq_true rfl,
   LowHs.at ⟨lowO_mono (Nat.zero_le _) h0, lowO_mono (Nat.zero_le _) h1, entsT_low 5 _ _, entsE_low 5 _ _, lowC ⟨.map _ (show 2 < 5 by decide), .map _ (show 3 < 5 by decide), trivial⟩, trivial⟩, e, o0, o1, e1, h0, h1, rfl, rfl⟩)
 refine acallsG F.h147 (by simp [c_147]) ?_
 have h1 : decide ((src.length : Int) > 600) = false := decide_eq_false (by omega)
 conv => whnf
 rw [h1]
 conv => whnf
 refine hP.to ?_
 conv => whnf
 refine hP5.to ?_
 conv => whnf
 intro I hI hGC
 have key : ∀ (d j : Nat) (XS : List AVal) (e : Env), l.length - j = d → j ≤ l.length → XS = defVs (defsOf (l.take j)) → XS.length ≤ j →
   I (setL e [(5, .lst (l.map DeclA.av) .none), (7, .lst (l.map DeclA.av) .none), (9, .lst XS (dtok XS.length 0)), (10, .lst XS (dtok XS.length 1)), (11, .int .i64 j)]) [dobj XS.length 182, dobj XS.length 244] := by
  intro d
  induction d with
  | zero =>
   intro j XS e hd hj hX hXl
   have hjl : j = l.length := by omega
   rw [hjl, List.take_length] at hX
   have hlen : XS.length = (defsOf l).length := by rw [hX, defVs_len]
   apply hI
   conv => whnf
   rw [show decide (((j : Nat) : Int) < (((l.map DeclA.av).length : Nat) : Int)) = false from by rw [List.length_map, hjl]; simp]
   conv => whnf
   rw [hX]
   refine (hnew _ _).mono fun r H' ⟨e, hok, e1, e2⟩ => ?_
   subst e1 e2
   conv => whnf
   rw [show decide ((((defVs (defsOf l)).length : Nat) : Int) ≤ 8) = decide ((defsOf l).length ≤ 8) from by
    rw [defVs_len]
    by_cases h : (defsOf l).length ≤ 8
    ·rw [decide_eq_true h, decide_eq_true (by omega)]
    ·rw [decide_eq_false h, decide_eq_false (by omega)]]
   exact ⟨e, _, _, _, [], hok, dobj_low _ _ _, dobj_low _ _ _, rfl, rfl⟩
  | succ d ihd =>
   intro j XS e hd hj hX hXl
   have hjl : j < l.length := by omega
   have hnext := fun YS e h1 h2 => ihd (j + 1) YS e (by omega) hjl h1 h2
   rw [defsOf_snoc l j hjl] at hnext
   have hget := decl_at hjl
   have hg := hG _ (List.getElem_mem hjl)
   generalize l[j] = v at hget hnext hg
   obtain ⟨vk, vp, vn, vts, ves⟩ := v
   apply hI
   conv => whnf
   rw [show decide (((j : Nat) : Int) < (((l.map DeclA.av).length : Nat) : Int)) = true from by rw [List.length_map]; simp; omega]
   conv => whnf
   refine step_elem (Int.natCast_nonneg _) hget rfl ?_
   conv => whnf
   refine ⟨Nat.zero_le _, ?_⟩
   conv => whnf
   dsimp only at hnext
   cases hk : (vk == 2)
   ·rw [hk, if_neg (by simp)] at hnext
    conv => whnf
    exact inv_of [(5, .lst (l.map DeclA.av) .none), (7, .lst (l.map DeclA.av) .none), (9, .lst XS (dtok XS.length 0)), (10, .lst XS (dtok XS.length 1)), (11, .int .i64 (j + 1 : Nat))] ⟨rfl, rfl, rfl, rfl, add1 (show j + 1 < 9223372036854775808 by omega), trivial⟩ (hnext XS _ hX (by omega))
   ·obtain ⟨hn, t, ht, _, _⟩ := hg (by simpa using hk)
    dsimp only at ht
    subst ht
    rw [hk, if_pos rfl] at hnext
    have hdef : defOf ⟨vk, vp, vn, [t], ves⟩ = (vn, t) := rfl
    rw [hdef, defVs_snoc, ← hX] at hnext
    have sX : Sized 5 XS := by rw [hX]; exact sized_defVs _
    obtain ⟨tk, tn, tns, tl⟩ := t
    have app0 : ∀ {H : Heap} {K : AVal → Heap → Prop} {tk0 : Tok}, H[0]? = some (dobj XS.length 182) → K (.lst (XS ++ [defV (vn, .mk tk tn tns tl)]) (dtok (XS ++ [defV (vn, .mk tk tn tns tl)]).length 0)) (H.set 0 (dobj (XS ++ [defV (vn, .mk tk tn tns tl)]).length 182)) → appK 5 88 182 (.lst XS (dtok XS.length 0)) (.lst [defV (vn, .mk tk tn tns tl)] tk0) H K :=
     fun h1 h2 => app_slot sX (sized_one rfl) (by simp; omega) (by simp; omega) (by simp) h1 h2
    have app1 : ∀ {H : Heap} {K : AVal → Heap → Prop} {tk0 : Tok}, H[1]? = some (dobj XS.length 244) → K (.lst (XS ++ [defV (vn, .mk tk tn tns tl)]) (dtok (XS ++ [defV (vn, .mk tk tn tns tl)]).length 1)) (H.set 1 (dobj (XS ++ [defV (vn, .mk tk tn tns tl)]).length 244)) → appK 5 88 244 (.lst XS (dtok XS.length 1)) (.lst [defV (vn, .mk tk tn tns tl)] tk0) H K :=
     fun h1 h2 => app_slot sX (sized_one rfl) (by simp; omega) (by simp; omega) (by simp) h1 h2
    have hnext := fun e => hnext (XS ++ [defV (vn, .mk tk tn tns tl)]) e rfl (by simp; omega)
    clear hX
    conv => whnf
    refine step_elem (Int.natCast_nonneg _) hget rfl ?_
    conv => whnf
    refine ⟨Nat.le_of_ble_eq_true rfl, ?_⟩
    conv => whnf
    refine step_elem (Int.natCast_nonneg _) hget rfl ?_
    conv => whnf
    refine ⟨Nat.le_of_ble_eq_true rfl, ?_⟩
    conv => whnf
    refine ⟨Int.le_refl 0, ?_⟩
    conv => whnf
    refine ⟨rfl, ?_⟩
    conv => whnf
    refine app0 rfl ?_
    conv => whnf
    refine step_elem (Int.natCast_nonneg _) hget rfl ?_
    conv => whnf
    refine ⟨Nat.le_of_ble_eq_true rfl, ?_⟩
    conv => whnf
    refine step_elem (Int.natCast_nonneg _) hget rfl ?_
    conv => whnf
    refine ⟨Nat.le_of_ble_eq_true rfl, ?_⟩
    conv => whnf
    refine ⟨Int.le_refl 0, ?_⟩
    conv => whnf
    refine ⟨rfl, ?_⟩
    conv => whnf
    refine app1 rfl ?_
    conv => whnf
    exact inv_of [(5, .lst (l.map DeclA.av) .none), (7, .lst (l.map DeclA.av) .none), (9, .lst (XS ++ [defV (vn, .mk tk tn tns tl)]) (dtok (XS ++ [defV (vn, .mk tk tn tns tl)]).length 0)), (10, .lst (XS ++ [defV (vn, .mk tk tn tns tl)]) (dtok (XS ++ [defV (vn, .mk tk tn tns tl)]).length 1)), (11, .int .i64 (j + 1 : Nat))] ⟨rfl, rfl, rfl, rfl, add1 (by omega), trivial⟩ (hnext _)
 exact inv_of [(5, .lst (l.map DeclA.av) .none), (7, .lst (l.map DeclA.av) .none), (9, .lst [] .nil), (10, .lst [] .nil), (11, .int .i64 0)] ⟨rfl, rfl, rfl, rfl, rfl, trivial⟩ (key l.length 0 [] _ rfl (Nat.zero_le _) rfl (Nat.zero_le _))
end Go.Ag
/- How many parts a type is spread to, by sizes; environments of small definitions; what a type stands for. -/
namespace Go.Ag
open Go
variable {T : Tab} {L : Lnk} {by_ : List (Bytes × TA)} {e : EnvA} {C : List TA}
theorem szL_sum (l : List TA) : szL l = (l.map szT).sum := by
 induction l with
 | nil => rfl
 | cons t l ih => rw [szL_cons, List.map_cons, List.sum_cons, ih]
theorem sz_partsT (t : TA) : szL (partsT t) ≤ szT t := by
 obtain ⟨k, nm, ns, l⟩ := t
 unfold partsT
 split
 ·rw [szT_mk]; exact Nat.le_succ _
 ·rw [szL_cons]; exact Nat.le_refl _
theorem szL_append (a b : List TA) : szL (a ++ b) = szL a + szL b := by simp [szL_sum]
theorem sz_flat (l : List TA) : szL (flatT l) ≤ szL l := by
 induction l with
 | nil => exact Nat.le_refl _
 | cons t l ih =>
  have h1 : flatT (t :: l) = partsT t ++ flatT l := by unfold flatT; rw [List.flatMap_cons]
  rw [h1, szL_append, szL_cons]
  have := sz_partsT t
  omega
theorem sz_partsU (l : List TA) : szL (partsU l) ≤ szL l := by
 unfold partsU
 rw [szL_sum, List.map_map]
 have h1 := sum_sublist (fun p : TA × Bytes => szT p.1) (dedK_sub (sortP (keyT l)))
 have h2 := ((sortP_perm (keyT l)).map fun p : TA × Bytes => szT p.1).sum_nat
 have h3 : ((keyT l).map fun p : TA × Bytes => szT p.1).sum = szL l := by
  unfold keyT
  rw [List.map_map, szL_sum]; rfl
 have h4 : ((dedK (sortP (keyT l))).map (szT ∘ fun x => x.1)).sum = ((dedK (sortP (keyT l))).map fun p : TA × Bytes => szT p.1).sum := rfl
 omega
theorem sz_unionT (l : List TA) : szT (unionT l) ≤ 1 + szL l := by
 rw [unionT_eq]
 have hf := sz_flat l
 split
 ·rename_i t h
  have := szL_mem (List.mem_of_find?_eq_some h)
  omega
 ·have h2 := sz_partsU (flatT l)
  unfold unionP
  split
  ·rename_i t h
   rw [h, szL_cons] at h2
   omega
  ·rw [szT_mk]; omega
theorem sz_norm : ∀ (n : Nat) (t : TA), wtT t ≤ n → szT (normT t) ≤ szT t
 | 0, t, h => by have := wt_l t; omega
 | n + 1, t, h => by
  obtain ⟨k, nm, ns, l⟩ := t
  have hl : ∀ m : List TA, (∀ t ∈ m, wtT t ≤ n) → szL (normL m) ≤ szL m := fun m => by
   induction m with
   | nil => intro _; exact Nat.le_refl _
   | cons t m ih =>
    intro hm
    rw [normL, szL_cons, szL_cons]
    have h1 := sz_norm n t (hm t (by simp))
    have h2 := ih fun x hx => hm x (by simp [hx])
    omega
  have h2 := hl l fun t ht => by
   have h3 := wtL_mem ht
   rw [wtT] at h
   omega
  rw [normT, szT_mk]
  split
  ·have := sz_unionT (normL l)
   omega
  ·rw [szT_mk]; omega
theorem sz_normT (t : TA) : szT (normT t) ≤ szT t := sz_norm _ t (Nat.le_refl _)
def prodF (f : Bytes → Nat) : List Bytes → Nat
 | [] => 1
 | a :: l => f a * prodF f l
theorem prodF_perm {f : Bytes → Nat} {l m : List Bytes} (h : l.Perm m) : prodF f l = prodF f m := by
 induction h with
 | nil => rfl
 | cons a h ih => rw [prodF, prodF, ih]
 | swap a b l => rw [prodF, prodF, prodF, prodF, ← Nat.mul_assoc, ← Nat.mul_assoc, Nat.mul_comm (f b)]
 | trans _ _ h1 h2 => exact h1.trans h2
theorem prodF_pos {f : Bytes → Nat} (hf : ∀ a, 1 ≤ f a) : ∀ l, 1 ≤ prodF f l
 | [] => Nat.le_refl _
 | a :: l => Nat.mul_pos (hf a) (prodF_pos hf l)
theorem spread_sz (hE : NewOK by_ e) (hnd : (by_.map (·.1)).Nodup) : ∀ n,
  (∀ (P Q : List Bytes) (t : TA) (ys : List TA), (by_.map (·.1)).Perm (P ++ Q) → (∀ p ∈ P, ∀ r ∈ bareT t, Leads by_ (lookP by_ p) r) → spreadF e n t = some ys → ys.length ≤ szT t * prodF (fun p => szT (lookP by_ p)) Q) ∧
  (∀ (P Q : List Bytes) (l : List TA) (ys : List TA), (by_.map (·.1)).Perm (P ++ Q) → (∀ p ∈ P, ∀ r ∈ bareL l, Leads by_ (lookP by_ p) r) → spreadsF e n l = some ys → ys.length ≤ szL l * prodF (fun p => szT (lookP by_ p)) Q)
 | 0 => ⟨fun P Q t ys _ _ h => (by rw [spreadF] at h; cases h), fun P Q l ys _ _ h => (by rw [spreadsF] at h; cases h)⟩
 | n + 1 => by
  obtain ⟨h1, h2⟩ := spread_sz hE hnd n
  have hpos : ∀ Q, 1 ≤ prodF (fun p => szT (lookP by_ p)) Q := prodF_pos fun a => szT_pos _
  have hone : ∀ (t : TA) Q, 1 ≤ szT t * prodF (fun p => szT (lookP by_ p)) Q := fun t Q => Nat.mul_pos (szT_pos t) (hpos Q)
  refine ⟨fun P Q t ys hperm hlead h => ?_, fun P Q l ys hperm hlead h => ?_⟩
  ·obtain ⟨k, nm, ns, l⟩ := t
   have h0 := hone (.mk k nm ns l) Q
   rw [bareT] at hlead
   rw [spreadF] at h
   split at h
   ·rename_i h8
    rw [if_pos h8] at hlead
    split at h
    ·cases h; simp only [List.length_singleton]; exact h0
    ·rename_i he
     have hne : ¬ EmptyN by_ nm := fun h => he ((empty_right hE hnd nm).2 h)
     have hdef : (by_.find? (·.1 == nm)).isSome = true := by
      cases hd : (by_.find? (·.1 == nm)).isSome
      ·exact absurd (.inl hd) hne
      ·rfl
     have hkey := find_key hdef
     have hnP : nm ∉ P := fun hm => hne (.inr (hlead nm hm nm (by simp)))
     have hQ : nm ∈ Q := by
      rcases List.mem_append.1 (hperm.mem_iff.1 hkey) with h | h
      ·exact absurd h hnP
      ·exact h
     rw [def_look, hE.hby] at h
     have hp2 : (by_.map (·.1)).Perm ((nm :: P) ++ Q.erase nm) := hperm.trans ((List.Perm.append_left P (List.perm_cons_erase hQ)).trans List.perm_middle)
     have := h1 (nm :: P) (Q.erase nm) (lookP by_ nm) ys hp2 (fun p hp r hr => by
      rcases List.mem_cons.1 hp with rfl | hp
      ·exact .here _ _ hr
      ·exact (hlead p hp nm (by simp)).trans (.here _ _ hr)) h
     rw [prodF_perm (List.perm_cons_erase hQ), prodF]
     refine Nat.le_trans this ?_
     exact Nat.le_mul_of_pos_left _ (szT_pos _)
   ·rename_i h8
    rw [if_neg h8] at hlead
    split at h
    ·rename_i h7
     rw [if_pos h7] at hlead
     have := h2 P Q l ys hperm hlead h
     refine Nat.le_trans this (Nat.mul_le_mul_right _ ?_)
     rw [szT_mk]; exact Nat.le_succ _
    ·cases h; simp only [List.length_singleton]; exact h0
  ·cases l with
   | nil => rw [spreadsF] at h; cases h; simp
   | cons t l =>
    rw [spreadsF] at h
    cases hx : spreadF e n t with
    | none => rw [hx] at h; cases h
    | some xs =>
     cases hr : spreadsF e n l with
     | none => rw [hx, hr] at h; cases h
     | some zs =>
      rw [hx, hr] at h
      cases h
      have k1 := h1 P Q t xs hperm (fun p hp r hr => hlead p hp r (by rw [bareL]; exact List.mem_append_left _ hr)) hx
      have k2 := h2 P Q l zs hperm (fun p hp r hr => hlead p hp r (by rw [bareL]; exact List.mem_append_right _ hr)) hr
      rw [szL_cons, List.length_append, Nat.add_mul]
      exact Nat.add_le_add k1 k2
theorem x_le : ∀ x : Nat, 4 * x * 7 ^ x ≤ 11 * 8 ^ x := fun x => by
 by_cases h : x < 8
 ·have : ∀ x, x < 8 → 4 * x * 7 ^ x ≤ 11 * 8 ^ x := by decide
  exact this x h
 ·obtain ⟨k, rfl⟩ : ∃ k, x = 8 + k := ⟨x - 8, by omega⟩
  clear h
  induction k with
  | zero => decide
  | succ k ih =>
   rw [← Nat.add_assoc, Nat.pow_succ, Nat.pow_succ]
   generalize 7 ^ (8 + k) = a at ih ⊢
   generalize 8 ^ (8 + k) = b at ih ⊢
   have h1 : 4 * (8 + k + 1) * (a * 7) = 4 * (7 * (8 + k + 1)) * a := by
    rw [Nat.mul_comm a 7, ← Nat.mul_assoc, Nat.mul_assoc 4, Nat.mul_comm (8 + k + 1) 7]
   have h2 : 4 * (7 * (8 + k + 1)) * a ≤ 4 * (8 * (8 + k)) * a := Nat.mul_le_mul_right _ (by omega)
   have h3 : 4 * (8 * (8 + k)) * a = 8 * (4 * (8 + k) * a) := by
    rw [← Nat.mul_assoc 4, Nat.mul_comm 4 8, Nat.mul_assoc 8, Nat.mul_assoc 8]
   omega
theorem prod_le (f : Bytes → Nat) : ∀ l : List Bytes, 4 ^ l.length * 7 ^ (l.map f).sum * prodF f l ≤ 11 ^ l.length * 8 ^ (l.map f).sum
 | [] => by simp [prodF]
 | a :: l => by
  have h1 := x_le (f a)
  have h2 := prod_le f l
  rw [List.length_cons, List.map_cons, List.sum_cons, prodF, Nat.pow_succ, Nat.pow_succ, Nat.pow_add, Nat.pow_add]
  have := Nat.mul_le_mul h1 h2
  generalize 4 ^ l.length = a1 at *
  generalize 7 ^ (l.map f).sum = a2 at *
  generalize 11 ^ l.length = a3 at *
  generalize 8 ^ (l.map f).sum = a4 at *
  generalize prodF f l = a5 at *
  generalize 7 ^ f a = a6 at *
  generalize 8 ^ f a = a7 at *
  generalize f a = x at *
  calc a1 * 4 * (a6 * a2) * (x * a5) = 4 * x * a6 * (a1 * a2 * a5) := by simp only [Nat.mul_assoc, Nat.mul_comm, Nat.mul_left_comm]
   _ ≤ 11 * a7 * (a3 * a4) := this
   _ = a3 * 11 * (a7 * a4) := by simp only [Nat.mul_assoc, Nat.mul_comm, Nat.mul_left_comm]
theorem prod_60 (f : Bytes → Nat) (l : List Bytes) (hl : l.length ≤ 8) (hs : (l.map f).sum ≤ 60) : prodF f l ≤ 10000000 := by
 have h := prod_le f l
 obtain ⟨a, ha⟩ : ∃ a, l.length + a = 8 := ⟨8 - l.length, by omega⟩
 obtain ⟨b, hb⟩ : ∃ b, (l.map f).sum + b = 60 := ⟨60 - (l.map f).sum, by omega⟩
 have h4 : 4 ^ a ≤ 11 ^ a := Nat.pow_le_pow_left (by decide) a
 have h7 : 7 ^ b ≤ 8 ^ b := Nat.pow_le_pow_left (by decide) b
 have h2 := Nat.mul_le_mul (Nat.mul_le_mul h4 h7) h
 have e1 : 4 ^ a * 7 ^ b * (4 ^ l.length * 7 ^ (l.map f).sum * prodF f l) = 4 ^ 8 * 7 ^ 60 * prodF f l := by
  rw [← ha, ← hb, Nat.pow_add, Nat.pow_add]
  simp only [Nat.mul_assoc, Nat.mul_comm, Nat.mul_left_comm]
 have e2 : 11 ^ a * 8 ^ b * (11 ^ l.length * 8 ^ (l.map f).sum) = 11 ^ 8 * 8 ^ 60 := by
  rw [← ha, ← hb, Nat.pow_add, Nat.pow_add]
  simp only [Nat.mul_assoc, Nat.mul_comm, Nat.mul_left_comm]
 rw [e1, e2] at h2
 rcases Nat.lt_or_ge 10000000 (prodF f l) with h3 | h3
 ·have h5 : 4 ^ 8 * 7 ^ 60 * 10000000 ≤ 4 ^ 8 * 7 ^ 60 * prodF f l := Nat.mul_le_mul_left _ (Nat.le_of_lt h3)
  have h6 : ¬ (4 ^ 8 * 7 ^ 60 * 10000000 ≤ 11 ^ 8 * 8 ^ 60) := by decide
  exact absurd (Nat.le_trans h5 h2) h6
 ·exact h3
end Go.Ag
/- Environments of small definitions; what a type stands for, and its text. -/
namespace Go.Ag
open Go
variable {T : Tab} {L : Lnk} {by_ : List (Bytes × TA)} {e : EnvA} {C : List TA}
theorem subs_all : ∀ (n : Nat) (t : TA), wtT t ≤ n → subsT t = allT t
 | 0, t, h => by have := wt_l t; omega
 | n + 1, t, h => by
  obtain ⟨k, nm, ns, l⟩ := t
  rw [wtT] at h
  have : ∀ m : List TA, (∀ t ∈ m, wtT t ≤ n) → subsL m = allL m := fun m => by
   induction m with
   | nil => intro _; rfl
   | cons t m ih => intro hm; rw [subsL, allL, subs_all n t (hm t (by simp)), ih fun x hx => hm x (by simp [hx])]
  rw [subsT, allT, this l fun t ht => by have := wtL_mem ht; omega]
theorem subs_len (t : TA) : (subsT t).length = szT t := by rw [subs_all _ t (Nat.le_refl _)]; rfl
theorem subs_sz : ∀ (n : Nat) (t : TA), wtT t ≤ n → ∀ x ∈ subsT t, szT x ≤ szT t
 | 0, t, h => by have := wt_l t; omega
 | n + 1, t, h => by
  obtain ⟨k, nm, ns, l⟩ := t
  intro x hx
  rw [subsT] at hx
  rcases List.mem_cons.1 hx with rfl | hx
  ·exact Nat.le_refl _
  ·obtain ⟨u, hu, hx⟩ := subsL_mem.1 hx
   rw [wtT] at h
   have h1 := subs_sz n u (by have := wtL_mem hu; omega) x hx
   have h2 := szL_mem hu
   rw [szT_mk]
   omega
theorem envW_gen (hE : NewOK by_ e) (hnd : (by_.map (·.1)).Nodup) (bs : List TA) (hb : ∀ p ∈ by_, p.2 ∈ bs) (hn : ∀ t ∈ bs, NT t) (hw : ∀ t ∈ bs, wtT t ≤ 2 ^ 30) (hz : ∀ t ∈ bs, szT t ≤ 100) (hl : bs.length ≤ 2 ^ 10)
  (hbl : by_.length ≤ 8) (hbs : (by_.map fun p => szT p.2).sum ≤ 60) : EnvW by_ e (bs.flatMap subsT) where
 ok := hE
 nodup := hnd
 mem := fun p hp => List.mem_flatMap.2 ⟨p.2, hb p hp, subs_self _⟩
 nt := fun t ht => by
  obtain ⟨b, hb, ht⟩ := List.mem_flatMap.1 ht
  exact subs_nt _ b (Nat.le_refl _) (hn b hb) t ht
 cl := fun t ht x hx => by
  obtain ⟨b, hb, ht⟩ := List.mem_flatMap.1 ht
  exact List.mem_flatMap.2 ⟨b, hb, ((subs_wt _ b (Nat.le_refl _)).1 t ht).2 x hx⟩
 wt := fun t ht => by
  obtain ⟨b, hb, ht⟩ := List.mem_flatMap.1 ht
  exact Nat.le_trans ((subs_wt _ b (Nat.le_refl _)).1 t ht).1 (hw b hb)
 fin := by
  have : ∀ (l : List TA), (∀ t ∈ l, szT t ≤ 100) → (l.flatMap subsT).length ≤ l.length * 100 := by
   intro l
   induction l with
   | nil => intro _; simp
   | cons t l ih =>
    intro h
    rw [List.flatMap_cons, List.length_append, List.length_cons, Nat.add_mul, subs_len]
    have h2 := h t (by simp)
    have h3 := ih fun x hx => h x (by simp [hx])
    omega
  have h1 := this bs hz
  omega
 slen := fun t ht => by
  obtain ⟨b, hb', ht⟩ := List.mem_flatMap.1 ht
  have h1 := subs_sz _ b (Nat.le_refl _) t ht
  have h2 := hz b hb'
  obtain ⟨n, hs⟩ := sprL_some hE hnd t
  have h3 := (spread_sz hE hnd n).1 [] (by_.map (·.1)) t _ (List.Perm.refl _) (fun p hp => by cases hp) hs
  have h4 : ((by_.map (·.1)).map fun p => szT (lookP by_ p)).sum ≤ 60 := by
   rw [List.map_map, show by_.map ((fun p => szT (lookP by_ p)) ∘ (·.1)) = by_.map fun p => szT p.2 from List.map_congr_left fun p hp => by
    show szT (lookP by_ p.1) = _
    rw [lookP_mem hnd hp]]
   exact hbs
  have h5 := prod_60 (fun p => szT (lookP by_ p)) (by_.map (·.1)) (by rw [List.length_map]; exact hbl) h4
  have h6 := Nat.mul_le_mul (Nat.le_trans h1 h2) h5
  omega
noncomputable def wholeT (e : EnvA) (t : TA) : TA := joinT (sprL e (normT t))
theorem sorted_ext : ∀ {l m : List TA}, l.Pairwise (fun a b => prT a 0 < prT b 0) → m.Pairwise (fun a b => prT a 0 < prT b 0) → (∀ x, x ∈ l ↔ x ∈ m) → l = m := fun {l m} hl hm h => by
 have nd : ∀ {l : List TA}, l.Pairwise (fun a b => prT a 0 < prT b 0) → l.Nodup := fun h => h.imp fun h e => by rw [e] at h; exact List.lt_irrefl _ h
 have hp : l.Perm m := (List.perm_ext_iff_of_nodup (nd hl) (nd hm)).2 h
 refine List.Perm.eq_of_pairwise (le := fun a b => prT a 0 < prT b 0) (fun a b _ _ h1 h2 => absurd (List.lt_trans h1 h2) (List.lt_irrefl _)) hl hm hp
theorem partsU_ext {l m : List TA} (hl : ∀ t ∈ l, NT t) (hm : ∀ t ∈ m, NT t) (h : ∀ x, x ∈ l ↔ x ∈ m) : partsU l = partsU m :=
 sorted_ext (partsU_sorted l) (partsU_sorted m) fun x => by rw [partsU_iff hl, partsU_iff hm, h]
open Classical in
theorem find_dyn {l : List TA} (h : ∀ t ∈ l, NT t ∧ t.kind ≠ 7) : l.find? (fun t => t.kind == 4) = if dynT ∈ l then some dynT else none := by
 cases hd : l.find? (fun t => t.kind == 4) with
 | some t =>
  have h4 : t.kind = 4 := by simpa using List.find?_some (p := fun t : TA => t.kind == 4) hd
  have hm := List.mem_of_find?_eq_some hd
  have := (h t hm).1.dyn_eq h4
  subst this
  rw [if_pos hm]
 | none =>
  rw [if_neg fun hm => List.find?_eq_none.1 hd dynT hm rfl]
open Classical in
theorem join_eq {l : List TA} (h : ∀ t ∈ l, NT t ∧ t.kind ≠ 7) (h0 : l ≠ []) : joinT l = if dynT ∈ l then dynT else unionP (partsU l) := by
 rw [join_heads h h0, find_dyn h]
 by_cases hd : dynT ∈ l
 ·rw [if_pos hd, if_pos hd]
 ·rw [if_neg hd, if_neg hd]
open Classical in
theorem join_congr {l m : List TA} (hl : ∀ t ∈ l, NT t ∧ t.kind ≠ 7) (hm : ∀ t ∈ m, NT t ∧ t.kind ≠ 7) (l0 : l ≠ []) (m0 : m ≠ []) (hd : dynT ∈ l ↔ dynT ∈ m) (h : dynT ∉ l → ∀ x, x ∈ l ↔ x ∈ m) : joinT l = joinT m := by
 rw [join_eq hl l0, join_eq hm m0]
 by_cases hx : dynT ∈ l
 ·rw [if_pos hx, if_pos (hd.1 hx)]
 ·rw [if_neg hx, if_neg fun h => hx (hd.2 h), partsU_ext (fun t ht => (hl t ht).1) (fun t ht => (hm t ht).1) (h hx)]
open Classical in
theorem join_nt {l : List TA} (h : ∀ t ∈ l, NT t ∧ t.kind ≠ 7) (h0 : l ≠ []) : NT (joinT l) := by
 rw [join_eq h h0]
 split
 ·exact .dyn
 ·rename_i hd
  refine unionP_nt (partsU_ne h0) (fun t ht => ?_) (partsU_sorted l)
  have hm := partsU_mem ht
  exact ⟨(h t hm).1, (h t hm).2, fun h4 => hd (by rw [← (h t hm).1.dyn_eq h4]; exact hm)⟩
theorem EnvW.wh (W : EnvW by_ e C) {t : TA} (ht : normT t ∈ C) : (∀ y ∈ sprL e (normT t), NT y ∧ y.kind ≠ 7) ∧ sprL e (normT t) ≠ [] := by
 obtain ⟨n, h1, h2, h3⟩ := W.some _ ht
 exact ⟨fun y hy => ⟨(h3 y hy).1, (h3 y hy).2.1⟩, h2⟩
theorem whole_congr {by2 : List (Bytes × TA)} {e2 : EnvA} {C2 : List TA} (W : EnvW by_ e C) (W2 : EnvW by2 e2 C2) {t u : TA} (ht : normT t ∈ C) (hu : normT u ∈ C2) (h : ∀ x, Spr by_ (normT t) x ↔ Spr by2 (normT u) x) : wholeT e t = wholeT e2 u := by
 have hm : ∀ x, x ∈ sprL e (normT t) ↔ x ∈ sprL e2 (normT u) := fun x => by rw [sprL_iff W.ok W.nodup, sprL_iff W2.ok W2.nodup, h]
 exact join_congr (W.wh ht).1 (W2.wh hu).1 (W.wh ht).2 (W2.wh hu).2 (hm dynT) fun _ => hm
theorem EnvW.whole_at {T : Tab} (W : EnvW by_ e C) (F : AliFns T) {t : TA} (ht : GC' C t) : EK T.L 188 [t.av] e (wholeT e t).av := by
 obtain ⟨n, h1, h2, h3⟩ := W.some _ ht.2.2
 have hE : ∀ p ∈ e.by_, wtT p.2 ≤ 2 ^ 40 := fun p hp => by
  rw [W.ok.hby] at hp
  have := W.wt _ (W.mem p hp)
  omega
 have hw : ∀ y ∈ sprL e (normT t), wtT y ≤ 2 ^ 30 := fun y hy => by
  rcases W.spr ((sprL_iff W.ok W.nodup _ _).1 hy) ht.2.2 with rfl | h'
  ·decide
  ·exact W.wt y h'
 have hl := W.slen _ ht.2.2
 have hok := okN_many (fun y hy => (h3 y hy).1) hl hw (by rw [flatT_id fun y hy => (h3 y hy).2.1]; exact hl)
 exact whole_spec F e hE n t _ h1 hl (okN_gt ht.1 ht.2.1) (by have := wt_normT t; have := ht.2.1; omega) hok
structure EnvS (by_ : List (Bytes × TA)) (e : EnvA) (C : List TA) : Prop extends EnvW by_ e C where
 few : C.length ≤ 1600
 wee : ∀ t ∈ C, wtT t ≤ 2 ^ 19
theorem envS_gen (hE : NewOK by_ e) (hnd : (by_.map (·.1)).Nodup) (bs : List TA) (hb : ∀ p ∈ by_, p.2 ∈ bs) (hn : ∀ t ∈ bs, NT t) (hw : ∀ t ∈ bs, wtT t ≤ 2 ^ 19) (hz : ∀ t ∈ bs, szT t ≤ 100) (hl : bs.length ≤ 16)
  (hbl : by_.length ≤ 8) (hbs : (by_.map fun p => szT p.2).sum ≤ 60) : EnvS by_ e (bs.flatMap subsT) where
 toEnvW := envW_gen hE hnd bs hb hn (fun t ht => Nat.le_trans (hw t ht) (by decide)) hz (by omega) hbl hbs
 few := by
  have : ∀ (l : List TA), (∀ t ∈ l, szT t ≤ 100) → (l.flatMap subsT).length ≤ l.length * 100 := by
   intro l
   induction l with
   | nil => intro _; simp
   | cons t l ih =>
    intro h
    rw [List.flatMap_cons, List.length_append, List.length_cons, Nat.add_mul, subs_len]
    have h2 := h t (by simp)
    have h3 := ih fun x hx => h x (by simp [hx])
    omega
  have h1 := this bs hz
  omega
 wee := fun t ht => by
  obtain ⟨b, hb, ht⟩ := List.mem_flatMap.1 ht
  exact Nat.le_trans ((subs_wt _ b (Nat.le_refl _)).1 t ht).1 (hw b hb)
theorem wtL_le {l : List TA} {m : Nat} (h : ∀ t ∈ l, wtT t ≤ m) : wtL l ≤ l.length * (m + 8) := by
 induction l with
 | nil => simp [wtL]
 | cons t l ih =>
  rw [wtL, List.length_cons, Nat.add_mul]
  have h1 := h t (by simp)
  have h2 := ih fun x hx => h x (by simp [hx])
  omega
theorem EnvS.parts_small (W : EnvS by_ e C) {l : List TA} (hn : ∀ t ∈ l, NT t) (h : ∀ x ∈ l, x = dynT ∨ x ∈ C) : (partsU l).length ≤ 1601 ∧ wtL (partsU l) ≤ 2 ^ 30 - 100 := by
 have nd : (partsU l).Nodup := (partsU_sorted l).imp fun h e => by rw [e] at h; exact List.lt_irrefl _ h
 have h1 : (partsU l).length ≤ (dynT :: C).length := nd.length_le_of_subset fun x hx => by
  rcases h x (partsU_mem hx) with rfl | h
  ·simp
  ·simp [h]
 have hf := W.few
 rw [List.length_cons] at h1
 have h2 := wtL_le (l := partsU l) (m := 2 ^ 19) fun t ht => by
  rcases h t (partsU_mem ht) with rfl | h
  ·decide
  ·exact W.wee t h
 have h3 : (partsU l).length * (2 ^ 19 + 8) ≤ 1601 * (2 ^ 19 + 8) := Nat.mul_le_mul_right _ (by omega)
 exact ⟨by omega, by omega⟩
open Classical in
theorem EnvS.join_wt (W : EnvS by_ e C) {l : List TA} (hn : ∀ t ∈ l, NT t ∧ t.kind ≠ 7) (h0 : l ≠ []) (h : ∀ x ∈ l, x = dynT ∨ x ∈ C) : wtT (joinT l) ≤ 2 ^ 30 := by
 rw [join_eq hn h0]
 have hs := (W.parts_small (fun t ht => (hn t ht).1) h).2
 split
 ·decide
 ·generalize partsU l = m at hs
  match m with
  | [] => decide
  | [t] => simp only [unionP]; rw [wtL, wtL] at hs; omega
  | t :: u :: m => simp only [unionP]; rw [wtT]; simp only [List.length_nil, List.map_nil, List.sum_nil]; omega
noncomputable def showT (e : EnvA) (t : TA) : Bytes := prT (wholeT e t) 0
theorem EnvS.text_at {T : Tab} (F : TypFns T) {u : TA} (hn : NT u) (hw : wtT u ≤ 2 ^ 30) : Pure T.L 150 [u.av] (.str (prT u 0)) := by
 have := Text_spec F u (okN_gt hn.gt hw) (by rw [normT_id hn]; omega) (by rw [normT_id hn]; exact hn.wf)
 rw [normT_id hn] at this
 exact this
theorem EnvS.show_at {T : Tab} (W : EnvS by_ e C) (F : AliFns T) (h145 : T.has 145 c_145) {t : TA} (ht : GC' C t) : EK T.L 145 [t.av] e (.str (showT e t)) := by
 have h1 := W.whole_at F ht
 have hw := W.wh ht.2.2
 have h2 : Pure T.L 150 [(wholeT e t).av] (.str (showT e t)) := EnvS.text_at F.toTypFns (join_nt hw.1 hw.2) (W.join_wt hw.1 hw.2 fun x hx => W.spr ((sprL_iff W.ok W.nodup _ _).1 hx) ht.2.2)
 generalize showT e t = s at h2 ⊢
 generalize wholeT e t = u at h1 h2
 obtain ⟨uk, un, us, ul⟩ := u
 obtain ⟨k, nm, ns, l⟩ := t
 refine EK.of 0 (.str _) (acallsG h145 (by simp [c_145]) ?_)
 conv => whnf
 refine h1.to (low1 (low_ta _ _)) (low_ta _ _) _ rfl ?_
 conv => whnf
 refine h2.to ?_
 conv => whnf
 exact ⟨_, _, rfl, Weak.refl _, rfl⟩
end Go.Ag
/- Package cupellaw08: alive. -/
namespace Go.Ag
open Go
variable {T : Tab} {L : Lnk}
structure Law8Fns (T : Tab) : Prop extends MadeFns T where
 h141 : T.has 141 c_141
def aliveSrc : Bytes := [116, 121, 112, 101, 32, 116, 32, 61, 32, 105, 110, 116, 32, 124, 32, 116, 59, 32, 116, 121, 112, 101, 32, 117, 32, 61, 32, 123, 97, 58, 32, 117, 125, 59]
def aT : TA := .mk 7 [] [] [.mk 1 [] [] [], .mk 8 [116] [] []]
def aU : TA := .mk 5 [] [[97]] [.mk 8 [117] [] []]
theorem alive_defs : srcDefs aliveSrc = [([116], aT), ([117], aU)] := by kernel_rfl
theorem g_t : gName [116] := ⟨by decide, by decide, by decide, by decide, by decide⟩
theorem aT_nt : NT aT := .uni _ (by decide) (fun t ht => by
  simp only [List.mem_cons, List.not_mem_nil, or_false] at ht
  rcases ht with rfl | rfl
  ·exact .int
  ·exact .ref _ g_t) (fun t ht => by
  simp only [List.mem_cons, List.not_mem_nil, or_false] at ht
  rcases ht with rfl | rfl <;> exact ⟨by decide, by decide⟩) (by
  rw [List.pairwise_cons]
  refine ⟨fun t ht => ?_, List.pairwise_singleton _ _⟩
  rw [List.mem_singleton] at ht; subst ht
  rw [pr_int, pr_ref]; decide)
theorem alive_by : newBy [([116], aT), ([117], aU)] = [([116], aT), ([117], normT aU)] := by
 have h : newBy [([116], aT), ([117], aU)] = [([116], normT aT), ([117], normT aU)] := rfl
 rw [h, normT_id aT_nt]
theorem alive_e {e : EnvA} (hok : NewOK (newBy (srcDefs aliveSrc)) e) : emptyP e [116] = true ∧ emptyP e [117] = false ∧ emptyP e [118] = true := by
 have hnd := newBy_nodup (srcDefs aliveSrc)
 have he := fun nm => empty_right hok hnd nm
 rw [alive_defs, alive_by] at he
 have hb : bareT (normT aU) = [] := by unfold aU; rw [normT, if_neg (by decide), bareT, if_neg (by decide), if_neg (by decide)]
 refine ⟨(he _).2 (.inr (.here _ _ (by decide))), ?_, (he _).2 (.inl rfl)⟩
 cases h : emptyP e [117]
 ·rfl
 ·rcases (he _).1 h with h | h
  ·cases h
  ·have hx : lookP [([116], aT), ([117], normT aU)] [117] = normT aU := rfl
   rw [hx] at h
   cases h with
   | here _ _ h => rw [hb] at h; cases h
   | step _ _ _ h => rw [hb] at h; cases h
theorem alive_spec8 (F : Law8Fns T) : Pure T.L 141 [] (.bool true) := by
 refine Pure.run low0 (.bool _) (acallsG F.h141 (by simp [c_141]) ?_)
 have hM := Made_spec F.toMadeFns aliveSrc (by decide)
 have hl : decide ((srcDefs aliveSrc).length ≤ 8) = true := by rw [alive_defs]; rfl
 rw [hl] at hM
 have hA : ∀ e, NewOK (newBy (srcDefs aliveSrc)) e → _ := fun e h => alive_e h
 generalize srcDefs aliveSrc = D at hM hA
 conv => whnf
 refine hM.mono fun r H' ⟨e, o0, o1, hok, l0, l1, e1, e2⟩ => ?_
 subst e1 e2
 obtain ⟨a1, a2, a3⟩ := hA e hok
 have r1 := empty_spec F.toAliFns e [116]
 rw [a1] at r1
 have r2 := empty_spec F.toAliFns e [117]
 rw [a2] at r2
 have r3 := empty_spec F.toAliFns e [118]
 rw [a3] at r3
 have hE : EnvAt e [o0, o1, .map (entsT e.by_ 0) e.by_.length, .map (entsE e.empty 0) e.empty.length, .cells [.map 2, .map 3] 234] 2 := ⟨rfl, rfl, rfl⟩
 conv => whnf
 refine r1.any (low1 (.str _)) (.bool _) hE ?_
 conv => whnf
 refine r2.any (low1 (.str _)) (.bool _) hE ?_
 conv => whnf
 refine r3.any (low1 (.str _)) (.bool _) hE ?_
 conv => whnf
 exact ret_weak (Weak.refl _)
end Go.Ag
/- Bodies in pieces: a run is told part by part. -/
namespace Go.Ag
open Go
variable {T : Tab} {L : Lnk}
def headS : Nat → AC → AC
 | 0, _ => .skip
 | n + 1, .seq a b => .seq a (headS n b)
 | _ + 1, c => c
def tailS : Nat → AC → AC
 | 0, b => b
 | n + 1, .seq a b => tailS n b
 | _ + 1, _ => .skip
theorem spine_cut {P : Env → Heap → Prop} {Q : XPost} : ∀ (n : Nat) (c : AC) (e : Env) (H : Heap), xcode L (headS n c) e H (seqQ P Q) → (∀ e' H', P e' H' → xcode L (tailS n c) e' H' Q) → xcode L c e H Q
 | 0, c, e, H, h, ht => ht _ _ h
 | n + 1, c, e, H, h, ht => by
  have other : (∀ a b, c ≠ .seq a b) → xcode L c e H Q := fun hne => by
   have e1 : headS (n + 1) c = c := by cases c <;> first | rfl | exact absurd rfl (hne _ _)
   have e2 : tailS (n + 1) c = .skip := by cases c <;> first | rfl | exact absurd rfl (hne _ _)
   rw [e1] at h
   refine xcode_mono (fun x e' H' hx => ?_) h
   cases x with
   | normal =>
    have := ht e' H' hx
    rw [e2] at this
    exact this
   | _ => exact hx
  cases c with
  | seq a b =>
   have h : xcode L a e H (seqQ (fun e' H' => xcode L (headS n b) e' H' (seqQ P Q)) (seqQ P Q)) := h
   show xcode L a e H (seqQ (fun e' H' => xcode L b e' H' Q) Q)
   refine xcode_mono (fun x e' H' hx => ?_) h
   cases x with
   | normal => exact spine_cut n b e' H' hx ht
   | _ => exact hx
  | _ => exact other (fun a b => by simp)
end Go.Ag
/- Library functions whose contracts are told of the machine: made abstract contracts. -/
namespace Go.Ag
open Go
open Go.RowKit (Below)
variable {L : Lnk}
theorem below_drewN (w : World) (n : Nat) : Below w.heap.size w (w.drewN n) := ⟨rfl, rfl, rfl, Nat.le_refl _, fun _ _ => rfl⟩
theorem ext_pure {f : Nat} {args : List AVal} {H : Heap} {x : AVal}
  (hc : ∀ g w vs, St L g w H → RepL L g vs args → ∃ v, Rep L g v x ∧ Calls L.P (L.num f) vs.toArray w fun e w' => e = .returned v ∧ Below w.heap.size w w') :
  ACalls L f args H fun r H' => r = .ret x ∧ H' = H := fun g w vs hs hr => by
 obtain ⟨v, h1, h2⟩ := hc g w vs hs hr
 exact h2.mono fun e w' ⟨h3, h4⟩ => ⟨.ret x, H, g, ⟨rfl, rfl⟩, Ghost.le.refl g, hs.wider h4, v, h3, h1⟩
theorem ext_pure2 {f : Nat} {args : List AVal} {H : Heap} {x : AVal}
  (hc : ∀ g w vs, St L g w H → RepL L g vs args → Calls L.P (L.num f) vs.toArray w fun e w' => (∃ v, e = .returned v ∧ Rep L g v x) ∧ Below w.heap.size w w') :
  ACalls L f args H fun r H' => r = .ret x ∧ H' = H := fun g w vs hs hr => by
 exact (hc g w vs hs hr).mono fun e w' ⟨⟨v, h3, h1⟩, h4⟩ => ⟨.ret x, H, g, ⟨rfl, rfl⟩, Ghost.le.refl g, hs.wider h4, v, h3, h1⟩
theorem repL1 {g : Ghost} {vs : List Value} {a : AVal} (h : RepL L g vs [a]) : ∃ v, vs = [v] ∧ Rep L g v a := by
 cases h with | cons v _ _ _ h hs => cases hs; exact ⟨v, rfl, h⟩
theorem repL2 {g : Ghost} {vs : List Value} {a b : AVal} (h : RepL L g vs [a, b]) : ∃ v u, vs = [v, u] ∧ Rep L g v a ∧ Rep L g u b := by
 cases h with | cons v _ _ _ h hs => obtain ⟨u, rfl, h2⟩ := repL1 hs; exact ⟨v, u, rfl, h, h2⟩
end Go.Ag
/- The library's contracts of the laws: from the machine's to abstract ones. -/
namespace Go.Ag
open Go
open Go.RowKit (Below)
variable {L : Lnk}
theorem ix_at (c : UInt8) : ∀ (a b : Bytes), c ∉ a → Lib.index (a ++ c :: b) [c] = a.length
 | [], b, _ => by simp [Lib.index]
 | x :: a, b, h => by
  simp only [List.mem_cons, not_or] at h
  have ih := ix_at c a b h.2
  simp only [List.cons_append, Lib.index]
  rw [if_neg (by simp [h.1]), ih, if_neg (by simp <;> omega)]
  simp
theorem ix_no (c : UInt8) : ∀ (a : Bytes), c ∉ a → Lib.index a [c] = -1
 | [], _ => rfl
 | x :: a, h => by
  simp only [List.mem_cons, not_or] at h
  simp only [Lib.index]
  rw [if_neg (by simp [h.1]), ix_no c a h.2]
  rfl
theorem cut2_cases (c : UInt8) : ∀ s : Bytes, (∃ a b, s = a ++ c :: b ∧ c ∉ a ∧ cut2 c s = (a, b, true)) ∨ (c ∉ s ∧ cut2 c s = (s, [], false))
 | [] => .inr ⟨by simp, rfl⟩
 | x :: s => by
  by_cases h : x = c
  ·subst h
   exact .inl ⟨[], s, rfl, by simp, by simp [cut2]⟩
  ·rcases cut2_cases c s with ⟨a, b, rfl, h1, h2⟩ | ⟨h1, h2⟩
   ·refine .inl ⟨x :: a, b, rfl, by simp [Ne.symm h, h1], ?_⟩
    simp only [cut2, Prod.mk.injEq] at h2 ⊢
    obtain ⟨e1, e2, e3⟩ := h2
    refine ⟨?_, ?_, by simp⟩
    ·rw [List.takeWhile_cons, if_pos (by simpa using h), e1]
    ·rw [List.dropWhile_cons, if_pos (by simpa using h), e2]
   ·refine .inr ⟨by simp [Ne.symm h, h1], ?_⟩
    simp only [cut2, Prod.mk.injEq] at h2 ⊢
    obtain ⟨e1, e2, e3⟩ := h2
    refine ⟨?_, ?_, ?_⟩
    ·rw [List.takeWhile_cons, if_pos (by simpa using h), e1]
    ·rw [List.dropWhile_cons, if_pos (by simpa using h), e2]
    ·rw [List.any_cons, e3]; simpa using h
theorem cut_lib (c : UInt8) (s : Bytes) : Lib.cut s [c] = cut2 c s := by
 unfold Lib.cut
 rcases cut2_cases c s with ⟨a, b, rfl, h, e⟩ | ⟨h, e⟩
 ·rw [ix_at c a b h, e, if_pos (by omega)]
  simp
 ·rw [ix_no c s h, e]
  rfl
theorem join_lib (sep : Bytes) : ∀ ws : List Bytes, Lib.join ws sep = joinB sep ws
 | [] => rfl
 | [w] => Lib.join_one w sep
 | w :: u :: r => by
  have ih := join_lib sep (u :: r)
  rw [Lib.join_cons] at ih ⊢
  simp only [joinB]
  rw [← ih]
  simp [Lib.joinTail]
theorem toArrB (s : Bytes) : (⟨s.toArray⟩ : ByteArray).data.toList = s := by simp
theorem sizeB (s : Bytes) : (⟨s.toArray⟩ : ByteArray).size = s.length := by show s.toArray.size = _; simp
theorem repL_strA {g : Ghost} {vs : List Value} : ∀ {l : List Bytes}, RepL L g vs (strA l) → vs = l.map fun s => .string ⟨s.toArray⟩ := fun {l} h => by
 induction l generalizing vs with
 | nil => cases h; rfl
 | cons s l ih =>
  simp only [strA, List.map_cons] at h
  cases h with
  | cons v _ vs _ h hs => rw [rep_str h, ih hs]; rfl
theorem repL_strA' {g : Ghost} : ∀ l : List Bytes, RepL L g (l.map fun s => Value.string ⟨s.toArray⟩) (strA l)
 | [] => .nil
 | s :: l => .cons _ _ _ _ (.str s) (repL_strA' l)
theorem strA_inv {g : Ghost} {w : World} {H : Heap} (hs : St L g w H) {v : Value} {l : List Bytes} {tk : Tok} (h : Rep L g v (.lst (strA l) tk)) :
  ∃ a c, v = .slice a l.length c ∧ l.length ≤ c ∧ (l ≠ [] → ∃ b o, a = some ⟨b, o, none⟩ ∧ b < w.heap.size ∧ ∀ (j : Nat) s, l[j]? = some s → w.cell? ⟨b, o + j, none⟩ = some (.string ⟨s.toArray⟩)) := by
 obtain ⟨a, c, k, b, o, vs, rfl, h1, h2, _, h4, _, h6⟩ := lst_inv h
 rw [flat_strA] at h6
 have hv := repL_strA h6
 have hl : (strA l).length = l.length := by simp [strA]
 rw [hl] at h4 ⊢
 refine ⟨a, c, rfl, h4, fun hne => ⟨b, o, h1 (by intro e; apply hne; simpa [strA] using e), ?_, fun j s hj => ?_⟩⟩
 ·obtain ⟨s, l', rfl⟩ := List.exists_cons_of_ne_nil hne
  have := h2 0 (.string ⟨s.toArray⟩) (by rw [hv]; rfl)
  exact hs.fz_lt this
 ·exact hs.fz b (o + j) _ (h2 j _ (by rw [hv]; simp [hj]))
structure Lib9Mach (L : Lnk) where
 gMax : Nat
 rowT : TypeId
 indexByte : ∀ (s : ByteArray) (c : Int) (w : World), Calls L.P (L.num 49) #[.string s, .int .u8 c] w fun e w' => e = .returned (.int .i64 (Lib.indexByte s.data.toList c.toNat.toUInt8)) ∧ w' = w
 cut : ∀ (s sep : ByteArray) (m : Int) (w : World), s.size < 4294967281 → w.cell? ⟨gMax, 0, none⟩ = some (.int .i64 m) →
  Calls L.P (L.num 22) #[.string s, .string sep] w fun e w' => e = .returned (.tuple #[.string ⟨(Lib.cut s.data.toList sep.data.toList).1.toArray⟩, .string ⟨(Lib.cut s.data.toList sep.data.toList).2.1.toArray⟩, .bool (Lib.cut s.data.toList sep.data.toList).2.2]) ∧ ∃ n, w' = w.drewN n
 joinNone : ∀ (a : Option Addr) (c : Nat) (sep : ByteArray) (w : World), Calls L.P (L.num 20) #[.slice a 0 c, .string sep] w fun e w' => e = .returned (.string ⟨[].toArray⟩) ∧ Below w.heap.size w w'
 join : ∀ (bk o c : Nat) (xs : List ByteArray) (sep : ByteArray) (w : World), (∀ (j : Nat) x, xs[j]? = some x → w.cell? ⟨bk, o + j, none⟩ = some (.string x)) → bk < w.heap.size → xs.length ≤ 140737488355328 → xs.length ≤ c →
  (Lib.join (xs.map (·.data.toList)) sep.data.toList).length ≤ 140737488355328 →
  Calls L.P (L.num 20) #[.slice (some ⟨bk, o, none⟩) xs.length c, .string sep] w fun e w' => e = .returned (.string ⟨(Lib.join (xs.map (·.data.toList)) sep.data.toList).toArray⟩) ∧ Below w.heap.size w w'
 clone : ∀ (b off n c : Nat) (zs : List ByteArray) (w : World), n ≤ zs.length → n * 16 ≤ 140737488355328 → (∀ j, j < zs.length → w.cell? ⟨b, off + j, none⟩ = some (.string (zs.getD j ByteArray.empty))) →
  Calls L.P (L.num 208) #[.slice (some ⟨b, off, none⟩) n c] w fun e w' => ∃ v', e = .returned v' ∧ w'.ownsRow w.heap.size rowT 1 v' n ((zs.take n).map (Value.string)) ∧ v' ≠ .slice none 0 0 ∧ Below w.heap.size w w'
 cloneNil : ∀ (n c : Nat) (w : World), Calls L.P (L.num 208) #[.slice none n c] w fun e w' => e = .returned (.slice none 0 0) ∧ w' = w
 cloneZero : ∀ (a : Addr) (c : Nat) (w : World), Calls L.P (L.num 208) #[.slice (some a) 0 c] w fun e w' => ∃ v', e = .returned v' ∧ w'.ownsRow w.heap.size rowT 1 v' 0 [] ∧ v' ≠ .slice none 0 0 ∧ Below w.heap.size w w'
 st : ∀ w0 base, L.start w0 base → gMax < base ∧ ∃ m, w0.cell? ⟨gMax, 0, none⟩ = some (.int .i64 m)
theorem Lib9Mach.jlib (M : Lib9Mach L) : JoinLib L where
 join := fun ws sep h1 h2 H => ext_pure fun g w vs hs hr => by
  obtain ⟨v, u, rfl, r1, r2⟩ := repL2 hr
  rw [rep_str r2]
  obtain ⟨a, c, rfl, hc, hcell⟩ := strA_inv hs r1
  refine ⟨_, .str _, ?_⟩
  cases ws with
  | nil => exact M.joinNone a c _ w
  | cons s ws =>
   obtain ⟨b, o, rfl, hb, hcell⟩ := hcell (by simp)
   have hmm : ((s :: ws).map fun s => (⟨s.toArray⟩ : ByteArray)).map (·.data.toList) = s :: ws := by
    rw [List.map_map]
    exact (List.map_congr_left (g := id) fun x _ => by simp).trans (List.map_id _)
   have := M.join b o c ((s :: ws).map fun s => ⟨s.toArray⟩) ⟨sep.toArray⟩ w (fun j x hx => by
    rw [List.getElem?_map] at hx
    cases hj : (s :: ws)[j]? with
    | none => rw [hj] at hx; cases hx
    | some y => rw [hj] at hx; cases hx; exact hcell j y hj) hb (by simp at h2 ⊢; omega) (by simpa using hc) (by rw [hmm, toArrB, join_lib]; omega)
   rw [hmm, toArrB, join_lib] at this
   simpa using this
theorem ext_own {f : Nat} {args : List AVal} {H : Heap} {xs : List AVal} {t : TypeId} (hk : ∀ x ∈ xs, x.cells.length = 1)
  (hc : ∀ g w vs, St L g w H → RepL L g vs args → ∃ us, RepL L g us (flat xs) ∧
   Calls L.P (L.num f) vs.toArray w fun e w' => ∃ v', e = .returned v' ∧ w'.ownsRow w.heap.size t 1 v' xs.length us ∧ Below w.heap.size w w') :
  ACalls L f args H fun r H' => r = .ret (.lst xs .none) ∧ H' = H := fun g w vs hs hr => by
 obtain ⟨us, h1, h2⟩ := hc g w vs hs hr
 refine h2.mono fun e w' ⟨v', e1, hown, hb⟩ => ?_
 have hs1 := hs.wider hb
 rcases hown.2 with ⟨rfl, h0⟩ | ⟨gb, cap, cur, rfl, hge, hblk, hcap, _, _, hcells⟩
 ·obtain rfl : xs = [] := List.eq_nil_of_length_eq_zero h0
  exact ⟨.ret (.lst [] .none), H, g, ⟨rfl, rfl⟩, Ghost.le.refl g, hs1, _, e1, .lst none 0 1 0 0 [] [] .none (fun h => absurd rfl h) (fun j v h => by simp at h) (by simp) (Nat.le_refl 0) trivial .nil⟩
 ·have hul : us.length = xs.length := by have := hown.1; omega
  have hkp : g.kp gb = none := by
   cases hq : g.kp gb with
   | none => rfl
   | some o => have := hs.kp_lt hq; omega
  have hf : ∀ o, 0 ≤ o → o < 0 + us.length → g.fz gb o = none := fun o _ _ => by
   cases hq : g.fz gb o with
   | none => rfl
   | some v => have := hs.fz_lt hq; omega
  have hle := Ghost.setFz_le hkp hf
  have h8 : St L (g.setFz gb 0 us) w' H := hs1.freezeNew hkp hf (fun j v hv => by
   rw [Nat.zero_add]
   have h3 : cur.toList[j]? = some v := by
    have h4 : (cur.toList.take (xs.length * 1))[j]? = some v := by rw [hcells]; exact hv
    rw [List.getElem?_take] at h4
    split at h4
    ·exact h4
    ·cases h4
   simp only [World.cell?, hblk, Option.isSome_none, Bool.false_eq_true, if_false]
   simpa using h3) (fun id o s _ _ hq => by have := hs.bnd _ _ _ hq; omega)
  exact ⟨.ret (.lst xs .none), H, _, ⟨rfl, rfl⟩, hle, h8, _, e1, .lst _ _ 1 gb 0 xs us .none (fun _ => rfl) (fun j v hv => Ghost.setFz_at _ _ _ _ j v hv) hk hcap trivial (h1.mono hle)⟩
theorem Lib9Mach.clone_spec (M : Lib9Mach L) (ns : List Bytes) (hn : ns.length ≤ 2 ^ 40) : Pure L 208 [.lst (strA ns) .none] (.lst (strA ns) .none) := fun H => by
 refine ext_own (t := M.rowT) (fun x hx => by
  simp only [strA, List.mem_map] at hx
  obtain ⟨s, _, rfl⟩ := hx
  rfl) fun g w vs hs hr => ?_
 obtain ⟨v, rfl, h⟩ := repL1 hr
 obtain ⟨a, c, rfl, hc, hcell⟩ := strA_inv hs h
 have hl : (strA ns).length = ns.length := by simp [strA]
 rw [flat_strA, hl]
 refine ⟨_, repL_strA' ns, ?_⟩
 cases ns with
 | nil =>
  cases a with
  | none => exact (M.cloneNil 0 c w).mono fun e w' ⟨e1, e2⟩ => ⟨_, e1, ⟨rfl, .inl ⟨rfl, rfl⟩⟩, e2 ▸ Below.refl _ _⟩
  | some a => exact (M.cloneZero a c w).mono fun e w' ⟨v', e1, e2, _, e3⟩ => ⟨v', e1, e2, e3⟩
 | cons s ns =>
  obtain ⟨b, o, rfl, hb, hcell⟩ := hcell (by simp)
  have h3 := M.clone b o (s :: ns).length c ((s :: ns).map fun s => ⟨s.toArray⟩) w (by simp) (by omega) (fun j hj => by
   have hj' : j < (s :: ns).length := by simpa using hj
   rw [hcell j (s :: ns)[j] (List.getElem?_eq_getElem hj')]
   simp only [List.getD_eq_getElem?_getD, List.getElem?_map, List.getElem?_eq_getElem hj', Option.map_some, Option.getD_some])
  refine h3.mono fun e w' ⟨v', e1, e2, _, e3⟩ => ⟨v', e1, ?_, e3⟩
  rw [List.take_of_length_le (by simp), List.map_map] at e2
  exact e2
theorem ixb (c : UInt8) : ∀ l : Bytes, decide (Lib.indexByte l c ≥ 0) = inA c l
 | [] => rfl
 | b :: l => by
  have ih := ixb c l
  have hge := Lib.indexByte_ge l c
  unfold inA at ih ⊢
  rw [List.any_cons, Lib.indexByte, ← ih]
  cases hb : (b == c)
  ·simp only [Bool.false_eq_true, if_false, Bool.false_or]
   by_cases h1 : Lib.indexByte l c = -1
   ·rw [h1]; rfl
   ·rw [if_neg (by simpa using h1)]
    have : Lib.indexByte l c ≥ 0 := by omega
    rw [decide_eq_true this]
    exact decide_eq_true (by omega)
  ·simp
theorem Lib9Mach.lex (M : Lib9Mach L) : LexLib L where
 idx := fun c => ⟨Lib.indexByte signsL c, ixb c signsL, fun H => ext_pure fun g w vs hs hr => by
  obtain ⟨v, u, rfl, h1, h2⟩ := repL2 hr
  rw [rep_str h1, rep_int h2]
  refine ⟨_, .int _ _, (M.indexByte _ _ w).mono fun e w' ⟨e1, e2⟩ => ⟨?_, e2 ▸ Below.refl _ _⟩⟩
  rw [e1, toArrB]
  simp⟩
 cut := fun c s hs0 H => ext_pure fun g w vs hs hr => by
  obtain ⟨v, u, rfl, h1, h2⟩ := repL2 hr
  rw [rep_str h1, rep_str h2]
  obtain ⟨q1, m, q2⟩ := M.st _ _ hs.fact
  have hm : w.cell? ⟨M.gMax, 0, none⟩ = some (.int .i64 m) := (hs.below.cell (p := ⟨M.gMax, 0, none⟩) q1).trans q2
  refine ⟨_, .tup [_, _, _] _ (.cons _ _ _ _ (.str _) (.cons _ _ _ _ (.str _) (.cons _ _ _ _ (.bool _) .nil))), (M.cut _ _ m w (by rw [sizeB]; omega) hm).mono fun e w' ⟨e1, n, e2⟩ => ⟨?_, e2 ▸ below_drewN _ _⟩⟩
  rw [e1, toArrB, toArrB, cut_lib]
end Go.Ag
/- The library's sorts: what they do to a row. -/
namespace Go.Ag
open Go Go.Sort Go.Proofs
open Go.RowKit (Below)
variable {L : Lnk} {g : Ghost} {w : World} {H : Heap}
theorem row_turn (hs : St L g w H) {id v t k : Nat} {xs ys : List AVal} {s : Spot} {cur cur' : Array Value} {w' : World} (hH : H[id]? = some (.arr v xs t)) (hs' : g.ob id v = some s) (hsk : s.k = k)
  (hcur : w.heap[s.b]? = some (.cells cur (L.ty t) (0, 0))) (hcur' : w'.heap[s.b]? = some (.cells cur' (L.ty t) (0, 0))) (hsize : cur'.size = cur.size) (hy : ∀ y ∈ ys, y.cells.length = k) (hlen : ys.length = xs.length)
  (hother : ∀ b, b ≠ s.b → b < w.heap.size → w'.heap[b]? = w.heap[b]?) (hsz : w.heap.size ≤ w'.heap.size) (hos : w'.os = w.os) (htp : w'.tape = w.tape) (hout : w'.output = w.output)
  (hrep : RepL L g (cur'.toList.take (ys.length * k)) (flat ys)) : St L g w' (H.set id (.arr v ys t)) := by
 obtain ⟨s0, cur0, e1, e0, e2, e3, e4, e5, e6, e7, e8, e9, e10⟩ := hs.obj id _ hH
 rw [hs'] at e1; cases e1
 rw [hcur] at e4; cases e4
 exact hs.upd1 (s1 := s) hH rfl hs' (Ghost.le.refl g) rfl rfl rfl (fun _ _ _ => rfl) (fun _ s2 h2 => .inl h2) (fun _ => hs') (.inl rfl) (Nat.lt_of_lt_of_le (hs.bnd _ _ _ hs') hsz) e9 (by rw [hcur]; simp)
  hother hsz hos htp hout
  ⟨s, cur', hs', e0, e2, e3, hcur', hsize.trans e5, fun x hx => by rw [hsk]; exact hy x hx, by rw [hlen]; exact e7, by rw [hsk]; exact hrep, e9, e10⟩
theorem grown_at {w : World} {blk n : Nat} {f : Array Value → Array Value} {os : Array Obj} {cur : Array Value} {t : TypeId} (h : w.heap[blk]? = some (.cells cur t (0, 0))) :
  (grow (mapBlock (Sort.ahead w n) blk f) os).heap[blk]? = some (.cells (f cur) t (0, 0)) := by
 have hlt : blk < w.heap.size := (Array.getElem?_eq_some_iff.1 h).1
 show (w.heap.modify blk (onCells f) ++ os)[blk]? = _
 rw [Array.getElem?_append_left (by simpa using hlt), Array.getElem?_modify, if_pos rfl, h]
 rfl
theorem grown_old {w : World} {blk n b : Nat} {f : Array Value → Array Value} {os : Array Obj} (hb : b ≠ blk) (hlt : b < w.heap.size) :
  (grow (mapBlock (Sort.ahead w n) blk f) os).heap[b]? = w.heap[b]? := by
 show (w.heap.modify blk (onCells f) ++ os)[b]? = _
 rw [Array.getElem?_append_left (by simpa using hlt), Array.getElem?_modify, if_neg (Ne.symm hb)]
theorem grown_size {w : World} {blk n : Nat} {f : Array Value → Array Value} {os : Array Obj} : w.heap.size ≤ (grow (mapBlock (Sort.ahead w n) blk f) os).heap.size := by
 show w.heap.size ≤ (w.heap.modify blk (onCells f) ++ os).size
 rw [Array.size_append, Array.size_modify]; omega
theorem putCells_size {α : Type} [Inhabited α] (enc : α → Value) (d : Array α) (c : Array Value) (off : Nat) : (putCells enc off d c).size = c.size := by simp [putCells]
theorem putCells_take {α : Type} [Inhabited α] (enc : α → Value) (d : Array α) (c : Array Value) (h : d.size ≤ c.size) : (putCells enc 0 d c).toList.take d.size = d.toList.map enc := by
 apply List.ext_getElem?
 intro j
 rw [List.getElem?_take]
 split
 ·rename_i hj
  simp only [putCells, Array.getElem?_toList, List.getElem?_map, Array.getElem?_mapIdx]
  rw [Array.getElem?_eq_getElem (by omega), Array.getElem?_eq_getElem hj]
  simp [hj]
 ·rename_i hj
  rw [List.getElem?_eq_none (by simp; omega)]
structure Sort9Mach (L : Lnk) : Prop where
 sort : ∀ (blk off cap : Nat) (ss : List Bytes) (w : World), Holds encStr w blk off ss.toArray → blk < w.heap.size → ss.length < 4611686018427387904 →
  Calls L.P (L.num 200) #[.slice (some ⟨blk, off, none⟩) ss.length cap] w fun e w' =>
   e = .returned (.tuple #[]) ∧ ∃ n os, w' = grow (putRow encStr (Sort.ahead w n) blk off (ss.mergeSort fun x y => decide (x ≤ y)).toArray) os
 none : ∀ (p : Option Addr) (cap : Nat) (w : World), Calls L.P (L.num 200) #[.slice p 0 cap] w fun e w' => e = .returned (.tuple #[]) ∧ w' = w
theorem Sort9Mach.par (M : Sort9Mach L) : ParLib L where
 sort0 := fun H => ext_pure fun g w vs hs hr => by
  obtain ⟨v, rfl, h⟩ := repL1 hr
  obtain ⟨a, c, k, b, o, vs, rfl, _⟩ := lst_inv h
  exact ⟨_, .tup [] [] .nil, (M.none a c w).mono fun e w' ⟨e1, e2⟩ => ⟨e1, e2 ▸ Below.refl _ _⟩⟩
 sort := fun l n id t H hH hn hne hl g w vs hs hr => by
  obtain ⟨v, rfl, h⟩ := repL1 hr
  cases h with
  | vec _ _ _ _ _ c s hs' hsk hc hz =>
   obtain ⟨s0, cur, e1, e0, e2, e3, e4, e5, e6, e7, e8, e9, e10⟩ := hs.obj id _ hH
   rw [hs'] at e1; cases e1
   have hll : (strA l).length = l.length := by simp [strA]
   rw [hsk, Nat.mul_one, hll] at e7 e8
   rw [flat_strA] at e8
   have hcells := repL_strA e8
   have hhold : Holds encStr w s.b 0 l.toArray := fun j hj => by
    have hj' : j < l.length := by simpa using hj
    have h3 : cur.toList[j]? = some (.string ⟨l[j].toArray⟩) := by
     have : (cur.toList.take l.length)[j]? = some (.string ⟨l[j].toArray⟩) := by rw [hcells]; simp [hj']
     rw [List.getElem?_take, if_pos hj'] at this
     exact this
    rw [Nat.zero_add]
    refine ⟨?_, by simp [World.frozen?, e4]⟩
    simp only [World.cell?, e4, Option.isSome_none, Bool.false_eq_true, if_false]
    rw [← Array.getElem?_toList, h3]
    simp [encStr, hj']
   have hcall := M.sort s.b 0 c l w hhold (hs.bnd _ _ _ hs') (by omega)
   rw [hn]
   refine hcall.mono fun e w' ⟨he, m, os, hw⟩ => ?_
   have hpl : (sortB l).length = l.length := (sortB_perm l).length_eq
   have hst : St L g w' (H.set id (.arr n (strA (sortB l)) t)) := by
    rw [hw]
    refine row_turn hs hH hs' hsk e4 (grown_at e4) (putCells_size _ _ _ _) (fun y hy => ?_) (by simp [strA, hpl]) (fun b hb hlt => grown_old hb hlt) grown_size rfl rfl rfl ?_
    ·simp only [strA, List.mem_map] at hy
     obtain ⟨s, _, rfl⟩ := hy
     rfl
    ·rw [flat_strA, Nat.mul_one]
     have h5 := putCells_take encStr (sortB l).toArray cur (by simp [hpl]; omega)
     have h6 : (sortB l).toArray.size = (strA (sortB l)).length := by simp [strA]
     rw [h6] at h5
     show RepL L g ((putCells encStr 0 (sortB l).toArray cur).toList.take _) _
     rw [h5]
     exact repL_strA' _
   exact ⟨.ret (.tup []), H.set id (.arr l.length (strA (sortB l)) t), g, ⟨rfl, rfl⟩, Ghost.le.refl g, hn ▸ hst, _, he, .tup [] [] .nil⟩
end Go.Ag
/- The library's sort of keyed types by a comparing function: what it does to a row. -/
namespace Go.Ag
open Go Go.Sort Go.Proofs
open Go.RowKit (Below)
variable {L : Lnk} {g : Ghost} {w : World} {H : Heap}
def KV : Type := { q : List Value × Bytes // q.1.length = 4 ∧ ∀ v ∈ q.1, v.oneCell' = true }
instance : Inhabited KV := ⟨⟨([.bool false, .bool false, .bool false, .bool false], []), rfl, fun v hv => by simp at hv; subst hv; rfl⟩⟩
def encK (x : KV) : List Value := x.1.1 ++ [.string ⟨x.1.2.toArray⟩]
theorem encK_len (x : KV) : (encK x).length = 5 := by simp [encK, x.2.1]
theorem encK_one (x : KV) : ∀ v ∈ encK x, v.oneCell' = true := fun v hv => by
 rcases List.mem_append.1 hv with hv | hv
 ·exact x.2.2 v hv
 ·simp only [List.mem_singleton] at hv; subst hv; rfl
theorem flatMap_at {α : Type} [Inhabited α] {enc : α → List Value} {k : Nat} (hk : ∀ x, (enc x).length = k) : ∀ (l : List α) (j : Nat), j < l.length * k → (l.flatMap enc)[j]? = some ((enc (l[j / k]!))[j % k]!)
 | [], j, h => by simp at h
 | x :: l, j, h => by
  have h0 : 0 < k := by
   rcases Nat.eq_zero_or_pos k with h' | h'
   ·subst h'; simp at h
   ·exact h'
  rw [List.flatMap_cons]
  rcases Nat.lt_or_ge j k with hj | hj
  ·rw [List.getElem?_append_left (by rw [hk]; exact hj), Nat.div_eq_of_lt hj, Nat.mod_eq_of_lt hj, List.getElem?_eq_getElem (by rw [hk]; exact hj)]
   simp [hk, hj]
  ·rw [List.getElem?_append_right (by rw [hk]; exact hj), hk]
   have h1 : j - k < l.length * k := by rw [List.length_cons, Nat.add_mul] at h; omega
   rw [flatMap_at hk l (j - k) h1]
   have h2 : j / k = (j - k) / k + 1 := by rw [← Nat.sub_add_cancel hj, Nat.add_div_right _ h0]; simp
   have h3 : j % k = (j - k) % k := by rw [Nat.mod_eq_sub_mod hj]
   rw [h2, h3]
   rfl
theorem flatK_list {α : Type} [Inhabited α] {enc : α → List Value} {k : Nat} (hk : ∀ x, (enc x).length = k) (d : Array α) : (flatK enc k d).toList = d.toList.flatMap enc := by
 have hl : (d.toList.flatMap enc).length = d.size * k := by
  rw [List.length_flatMap, show d.toList.map (fun x => (enc x).length) = d.toList.map fun _ => k from List.map_congr_left fun x _ => hk x, List.map_const', List.sum_replicate_nat, Array.length_toList]
 apply List.ext_getElem?
 intro j
 rcases Nat.lt_or_ge j (d.size * k) with hj | hj
 ·rw [flatMap_at hk d.toList j (by simpa using hj)]
  rw [Array.getElem?_toList, Array.getElem?_eq_getElem (by simpa using hj)]
  have := get_flatK enc k d j hj
  rw [getElem!_pos _ j (by simpa using hj)] at this
  rw [this]
  simp
  congr 2
  rw [getElem!_def]; cases d[j / k]? <;> rfl
 ·rw [List.getElem?_eq_none (by simpa using hj), List.getElem?_eq_none (by rw [hl]; exact hj)]
theorem perm_lift {α β : Type} {f : α → β} : ∀ {l : List β} {zs : List α}, (zs.map f).Perm l → ∃ zs', zs.Perm zs' ∧ zs'.map f = l
 | [], zs, h => by
  have : zs = [] := by simpa using h.eq_nil
  subst this
  exact ⟨[], .refl _, rfl⟩
 | y :: l, zs, h => by
  have hy : y ∈ zs.map f := h.symm.subset List.mem_cons_self
  obtain ⟨z, hz, rfl⟩ := List.mem_map.1 hy
  obtain ⟨s, t, rfl⟩ := List.append_of_mem hz
  have h1 : ((s ++ z :: t).map f).Perm (f z :: (s ++ t).map f) := by
   simp only [List.map_append, List.map_cons]
   exact List.perm_middle
  have h2 : ((s ++ t).map f).Perm l := List.Perm.cons_inv (h1.symm.trans h)
  obtain ⟨zs', e1, e2⟩ := perm_lift h2
  exact ⟨z :: zs', List.perm_middle.trans (e1.cons z), by rw [List.map_cons, e2]⟩
theorem kvs_split {us : List Value} : ∀ {xs : List (TA × Bytes)}, RepL L g us (flat (kvs xs)) → ∃ zs : List (KV × (TA × Bytes)), zs.map (·.2) = xs ∧ us = (zs.map (·.1)).flatMap encK ∧ ∀ z ∈ zs, RepL L g (encK z.1) (kcell z.2) ∧ z.1.1.2 = z.2.2 := fun {xs} h => by
 induction xs generalizing us with
 | nil => cases h; exact ⟨[], rfl, rfl, fun z hz => by cases hz⟩
 | cons p xs ih =>
  obtain ⟨⟨k, nm, ns, l⟩, s⟩ := p
  rw [show flat (kvs ((TA.mk k nm ns l, s) :: xs)) = .int .i64 k :: .str nm :: .lst (strA ns) .none :: .lst (TA.avs l) .none :: .str s :: flat (kvs xs) from rfl] at h
  cases h with | cons v0 _ _ _ h0 h =>
  cases h with | cons v1 _ _ _ h1 h =>
  cases h with | cons v2 _ _ _ h2 h =>
  cases h with | cons v3 _ _ _ h3 h =>
  cases h with | cons v4 _ vs _ h4 h =>
  obtain ⟨zs, e1, e2, e3⟩ := ih h
  have hs := rep_str h4
  subst hs
  refine ⟨(⟨([v0, v1, v2, v3], s), rfl, fun v hv => ?_⟩, (.mk k nm ns l, s)) :: zs, by rw [List.map_cons, e1], ?_, fun z hz => ?_⟩
  ·simp only [List.mem_cons, List.not_mem_nil, or_false] at hv
   rcases hv with rfl | rfl | rfl | rfl
   ·exact oneA_rep h0 rfl
   ·exact oneA_rep h1 rfl
   ·exact oneA_rep h2 rfl
   ·exact oneA_rep h3 rfl
  ·rw [List.map_cons, List.flatMap_cons, ← e2]; rfl
  ·rcases List.mem_cons.1 hz with rfl | hz
   ·exact ⟨.cons _ _ _ _ h0 (.cons _ _ _ _ h1 (.cons _ _ _ _ h2 (.cons _ _ _ _ h3 (.cons _ _ _ _ h4 .nil)))), rfl⟩
   ·exact e3 z hz
theorem kvs_join : ∀ {zs : List (KV × (TA × Bytes))}, (∀ z ∈ zs, RepL L g (encK z.1) (kcell z.2) ∧ z.1.1.2 = z.2.2) → RepL L g ((zs.map (·.1)).flatMap encK) (flat (kvs (zs.map (·.2))))
 | [], _ => .nil
 | z :: zs, h => by
  rw [List.map_cons, List.map_cons, List.flatMap_cons]
  exact ((h z List.mem_cons_self).1).append (kvs_join fun y hy => h y (List.mem_cons_of_mem _ hy))
structure SortFMach (L : Lnk) where
 cf : Bytes → Bytes → Int
 lt : ∀ s t : Bytes, cf s t < 0 ↔ s < t
 sort : ∀ (blk off cap : Nat) (d : Array KV) (w : World), HoldsK encK 5 w blk off d → blk < w.heap.size → d.size < 4611686018427387904 →
  Calls L.P (L.num 252) #[.slice (some ⟨blk, off, none⟩) d.size cap, .func (.func (L.num 253)) #[] #[]] w fun e w' =>
   e = .returned (.tuple #[]) ∧ ∃ d' n os, PermIn 0 d.size d d' ∧ SortedIn (fun x y => decide (cf x.1.2 y.1.2 < 0)) 0 d.size d' ∧ w' = sortWorldK encK 5 w blk off n d' os
 none : ∀ (p : Option Addr) (cap : Nat) (fv : Value) (w : World), Calls L.P (L.num 252) #[.slice p 0 cap, fv] w fun e w' => e = .returned (.tuple #[]) ∧ w' = w
theorem SortFMach.sort0 (M : SortFMach L) (H : Heap) : ACalls L 252 [.lst [] .nil, .fn (.func 253) [] []] H fun r H' => r = .ret (.tup []) ∧ H' = H := ext_pure fun g w vs hs hr => by
 obtain ⟨v, u, rfl, h, _⟩ := repL2 hr
 obtain ⟨a, c, k, b, o, vs, rfl, _⟩ := lst_inv h
 exact ⟨_, .tup [] [] .nil, (M.none a c u w).mono fun e w' ⟨e1, e2⟩ => ⟨e1, e2 ▸ Below.refl _ _⟩⟩
theorem SortFMach.sort_spec (M : SortFMach L) (xs : List (TA × Bytes)) (n id t : Nat) (H : Heap) (hH : H[id]? = some (.arr n (kvs xs) t)) (hn : n = xs.length) (hne : xs ≠ []) (hl : n ≤ 2 ^ 40) :
  ACalls L 252 [.vec id n 5 0 n, .fn (.func 253) [] []] H fun r H' => r = .ret (.tup []) ∧ ∃ ys : List (TA × Bytes), ys.Perm xs ∧ ys.Pairwise (fun a b => a.2 ≤ b.2) ∧ H' = H.set id (.arr n (kvs ys) t) := fun g w vs hs hr => by
 obtain ⟨v, u, rfl, h, hu⟩ := repL2 hr
 cases hu with | fn f _ fi ca _ _ hf h1 h2 =>
 cases h1
 cases h2
 cases f with
 | func f =>
  obtain ⟨rfl, _⟩ := hf
  cases h with
  | vec _ _ _ _ _ c s hs' hsk hc hz =>
   obtain ⟨s0, cur, e1, e0, e2, e3, e4, e5, e6, e7, e8, e9, e10⟩ := hs.obj id _ hH
   rw [hs'] at e1; cases e1
   rw [hsk, kvs_length] at e7 e8
   obtain ⟨zs, f1, f2, f3⟩ := kvs_split e8
   have hzl : zs.length = n := by rw [hn, ← f1]; simp
   have hds : (zs.map (·.1)).toArray.size = n := by simp [hzl]
   have hfl : (flatK encK 5 (zs.map (·.1)).toArray).toList = cur.toList.take (xs.length * 5) := by rw [flatK_list encK_len, f2]
   have hfs : (flatK encK 5 (zs.map (·.1)).toArray).size = xs.length * 5 := by simp [hzl, hn]
   have hhold : HoldsK encK 5 w s.b 0 (zs.map (·.1)).toArray := fun j hj => by
    rw [hfs] at hj
    have h3 : cur.toList[j]? = some ((flatK encK 5 (zs.map (·.1)).toArray)[j]!) := by
     have h4 : (flatK encK 5 (zs.map (·.1)).toArray).toList[j]? = cur.toList[j]? := by rw [hfl, List.getElem?_take, if_pos hj]
     rw [← h4, Array.getElem?_toList, Array.getElem?_eq_getElem (by rw [hfs]; exact hj), getElem!_pos _ j (by rw [hfs]; exact hj)]
    rw [Nat.zero_add]
    refine ⟨?_, by simp [World.frozen?, e4]⟩
    simp only [World.cell?, e4, Option.isSome_none, Bool.false_eq_true, if_false]
    rw [← Array.getElem?_toList, h3]
    rfl
   have hcall := M.sort s.b 0 c _ w hhold (hs.bnd _ _ _ hs') (by rw [hds]; omega)
   rw [hds] at hcall
   refine hcall.mono fun e w' ⟨he, d', m, os, hp, hso, hw⟩ => ?_
   obtain ⟨p1, _, p3⟩ := hp
   rw [hds] at p1
   have hperm : (zs.map (·.1)).Perm d'.toList := by
    have e1 : (d'.extract 0 n) = d' := by rw [← p1, Array.extract_size]
    have e2 : ((zs.map (·.1)).toArray.extract 0 n) = (zs.map (·.1)).toArray := by
     conv => lhs; rw [← hds]
     rw [Array.extract_size]
    rw [e1, e2] at p3
    exact p3.symm
   obtain ⟨zs', g1, g2⟩ := perm_lift hperm
   have f3' : ∀ z ∈ zs', RepL L g (encK z.1) (kcell z.2) ∧ z.1.1.2 = z.2.2 := fun z hz => f3 z (g1.symm.subset hz)
   have hzl' : zs'.length = n := by rw [← g1.length_eq, hzl]
   have hys : (zs'.map (·.2)).Perm xs := by rw [← f1]; exact (g1.symm.map _)
   have hd' : d' = (zs'.map (·.1)).toArray := by rw [g2]
   refine ⟨.ret (.tup []), H.set id (.arr n (kvs (zs'.map (·.2))) t), g, ⟨rfl, _, hys, ?_, rfl⟩, Ghost.le.refl g, ?_, _, he, .tup [] [] .nil⟩
   ·rw [List.pairwise_iff_getElem]
    intro i j hi hj hij
    have hi' : i < zs'.length := by simpa using hi
    have hj' : j < zs'.length := by simpa using hj
    have h5 := hso i j (Nat.zero_le _) hij (by omega)
    rw [hd'] at h5
    have q1 : (zs'.map (·.1)).toArray[i]! = zs'[i].1 := by rw [getElem!_pos _ i (by simpa using hi')]; simp
    have q2 : (zs'.map (·.1)).toArray[j]! = zs'[j].1 := by rw [getElem!_pos _ j (by simpa using hj')]; simp
    rw [q1, q2] at h5
    dsimp only at h5
    rw [(f3' _ (List.getElem_mem hi')).2, (f3' _ (List.getElem_mem hj')).2] at h5
    have h6 := of_decide_eq_false h5
    have h7 : ¬ zs'[j].2.2 < zs'[i].2.2 := fun hh => h6 ((M.lt _ _).2 hh)
    simpa using List.not_lt.1 h7
   ·rw [hw]
    have h7 : sortWorldK encK 5 w s.b 0 m d' os = grow (mapBlock (Sort.ahead w m) s.b (putCells (_root_.id : Value → Value) 0 (flatK encK 5 d'))) os := rfl
    rw [h7]
    have hfs' : (flatK encK 5 d').size = n * 5 := by simp [p1]
    refine row_turn hs hH hs' hsk e4 (grown_at e4) (putCells_size _ _ _ _) (fun y hy => kvs_len5 _ y hy) (by rw [kvs_length, kvs_length, List.length_map, hzl', hn]) (fun b hb hlt => grown_old hb hlt) grown_size rfl rfl rfl ?_
    rw [kvs_length, List.length_map, hzl']
    have h8 := putCells_take (_root_.id : Value → Value) (flatK encK 5 d') cur (by rw [hfs']; omega)
    rw [hfs', List.map_id, flatK_list encK_len] at h8
    rw [h8, hd']
    exact kvs_join f3'
 | _ => exact absurd hf (by simp [FnRep])
end Go.Ag
/- The library's ParseInt of a text of digits: what the document's Number is. -/
namespace Go.Ag
open Go
open Go.RowKit (Below)
variable {L : Lnk}
def natStep (n : Nat) (c : UInt8) : Nat := n * 10 + (c.toNat - 48)
theorem num_step {n : Nat} {c : UInt8} (h1 : 48 ≤ c.toNat) (h2 : c.toNat ≤ 57) (hn : n < 10 ^ 17) : numStep (n : Int) c = ((natStep n c : Nat) : Int) := by
 unfold numStep natStep
 have e1 : IntKind.u8.wrap ((c.toNat : Int) - 48) = (c.toNat : Int) - 48 := IntWalk.u8_in _ (by omega)
 rw [e1, IntWalk.i64_in (10 * (n : Int)) (by omega), IntWalk.i64_in ((c.toNat : Int) - 48) (by omega), IntWalk.i64_in _ (by omega)]
 omega
theorem parse_go : ∀ (l : Bytes) (acc : Nat), (∀ c ∈ l, 48 ≤ c.toNat ∧ c.toNat ≤ 57) → l.length ≤ 18 → acc < 10 ^ (18 - l.length) →
  Lib.parseUintM (2 ^ 64 - 1) acc l = .ok (l.foldl natStep acc) ∧ l.foldl numStep (acc : Int) = ((l.foldl natStep acc : Nat) : Int) ∧ l.foldl natStep acc < 10 ^ 18
 | [], acc, h, hl, ha => ⟨rfl, rfl, ha⟩
 | c :: l, acc, h, hl, ha => by
  obtain ⟨h1, h2⟩ := h c (by simp)
  rw [List.length_cons] at hl ha
  have e1 : 18 - l.length = (18 - (l.length + 1)) + 1 := by omega
  have hp : 10 ^ (18 - l.length) = 10 ^ (18 - (l.length + 1)) * 10 := by rw [e1, Nat.pow_succ]
  have hle : 10 ^ (18 - (l.length + 1)) ≤ 10 ^ 17 := Nat.pow_le_pow_right (by decide) (by omega)
  have ha2 : natStep acc c < 10 ^ (18 - l.length) := by unfold natStep; omega
  obtain ⟨k1, k2, k3⟩ := parse_go l (natStep acc c) (fun d hd => h d (by simp [hd])) (by omega) ha2
  refine ⟨?_, ?_, k3⟩
  ·rw [Lib.parseUintM, if_pos ⟨h1, h2⟩, if_neg (by omega), if_neg (by omega)]
   exact k1
  ·rw [List.foldl_cons, num_step h1 h2 (by omega)]
   exact k2
theorem parse_num {s : Bytes} (h : numOK s) : Lib.parseIntB 64 s = .ok (numberR s) := by
 obtain ⟨h0, h1, h2⟩ := h
 obtain ⟨k1, k2, k3⟩ := parse_go s 0 h2 h1 (Nat.pow_pos (by decide))
 cases s with
 | nil => exact absurd rfl h0
 | cons c r =>
  obtain ⟨c1, c2⟩ := h2 c (by simp)
  unfold Lib.parseIntB
  simp only
  rw [if_neg (by omega), show Lib.parseUintB 64 (c :: r) = .ok ((c :: r).foldl natStep 0) from by unfold Lib.parseUintB; rw [if_neg (by simp)]; exact k1]
  simp only
  rw [if_neg (by omega), if_neg (by omega), if_neg (by omega)]
  congr 1
  exact k2.symm
structure NumMach (L : Lnk) where
 t : TypeId
 parse : ∀ (s : ByteArray) (v : Int) (w : World), s.size ≤ 9223372036854775806 → Lib.parseIntB 64 s.data.toList = .ok v →
  Calls L.P (L.num 322) #[.string s, .int .i64 10, .int .i64 64] w fun e w' => e = .returned (.tuple #[.int .i64 v, .nilIface]) ∧ (w' = w ∨ ∃ z, w' = Lib.bytesWorld w t z)
theorem NumMach.lib (M : NumMach L) : NumLib L where
 num := fun s hs H => ext_pure2 fun g w vs hst hr => by
  cases hr with
  | cons v _ vs' _ h0 hr =>
   cases hr with
   | cons v1 _ vs1 _ h1 hr =>
    cases hr with
    | cons v2 _ vs2 _ h2 hr =>
     cases hr
     cases h0
     cases h1
     cases h2
     have hl := hs.2.1
     refine (M.parse ⟨s.toArray⟩ (numberR s) w (by show s.toArray.size ≤ _; rw [List.size_toArray]; omega) (by show Lib.parseIntB 64 s.toArray.toList = _; rw [List.toList_toArray]; exact parse_num hs)).mono fun e w' ⟨e1, e2⟩ => ⟨⟨_, e1, .tup [_, _] _ (.cons _ _ _ _ (.int _ _) (.cons _ _ _ _ .niliface .nil))⟩, ?_⟩
     rcases e2 with rfl | ⟨z, rfl⟩
     ·exact Below.refl _ _
     ·exact Lib.bytesWorld_below _ _ _
end Go.Ag
/- Package cupellaw08: AliasOrder. -/
namespace Go.Ag
open Go
variable {T : Tab} {L : Lnk}
section congr
variable {b1 b2 : List (Bytes × TA)}
theorem Leads.congr (h : ∀ nm, lookP b1 nm = lookP b2 nm) {t : TA} {nm : Bytes} (hl : Leads b1 t nm) : Leads b2 t nm := by
 induction hl with
 | here t nm h => exact .here t nm h
 | step t r nm hr _ ih => rw [h] at ih; exact .step t r nm hr ih
theorem EmptyN.congr (h : ∀ nm, lookP b1 nm = lookP b2 nm) (hf : ∀ nm, (b1.find? (·.1 == nm)).isSome = (b2.find? (·.1 == nm)).isSome) (nm : Bytes) : EmptyN b1 nm ↔ EmptyN b2 nm := by
 unfold EmptyN
 rw [hf, h]
 exact ⟨fun k => k.imp id (Leads.congr h), fun k => k.imp id (Leads.congr fun nm => (h nm).symm)⟩
theorem Spr.congr (h : ∀ nm, lookP b1 nm = lookP b2 nm) (he : ∀ nm, EmptyN b1 nm ↔ EmptyN b2 nm) {t x : TA} (hs : Spr b1 t x) : Spr b2 t x := by
 induction hs with
 | self t h7 h8 => exact .self t h7 h8
 | part nm ns l x y hx _ ih => exact .part nm ns l x y hx ih
 | emp nm ns l hh => exact .emp nm ns l ((he nm).1 hh)
 | ref nm ns l y hn _ ih => rw [h] at ih; exact .ref nm ns l y (fun k => hn ((he nm).2 k)) ih
end congr
theorem ord_look (X Y : TA) (nm : Bytes) : lookP [([116], X), ([117], Y)] nm = lookP [([117], Y), ([116], X)] nm ∧ (([([116], X), ([117], Y)] : List (Bytes × TA)).find? (·.1 == nm)).isSome = (([([117], Y), ([116], X)] : List (Bytes × TA)).find? (·.1 == nm)).isSome := by
 by_cases h1 : [116] = nm
 ·subst h1; exact ⟨rfl, rfl⟩
 ·by_cases h2 : [117] = nm
  ·subst h2; exact ⟨rfl, rfl⟩
  ·have e1 : (([116] : Bytes) == nm) = false := by simpa using h1
   have e2 : (([117] : Bytes) == nm) = false := by simpa using h2
   have f1 : ([([116], X), ([117], Y)] : List (Bytes × TA)).find? (·.1 == nm) = none := by rw [List.find?_cons, e1]; dsimp only; rw [List.find?_cons, e2]; rfl
   have f2 : ([([117], Y), ([116], X)] : List (Bytes × TA)).find? (·.1 == nm) = none := by rw [List.find?_cons, e2]; dsimp only; rw [List.find?_cons, e1]; rfl
   exact ⟨by unfold lookP; rw [f1, f2], by rw [f1, f2]⟩
structure OrdFns (T : Tab) : Prop extends Law8Fns T where
 h128 : T.has 128 c_128
structure OrdW (e f : EnvA) (C : List TA) (t : TA) : Prop where
 gc : GC' C t
 show_ : showT e t = showT f t
 emp : ∀ nm, emptyP e nm = emptyP f nm
theorem ord_w {x y z t : TA} (hx : GT x) (hy : GT y) (ht : GT t) (wx : wtT x ≤ 2 ^ 16) (wy : wtT y ≤ 2 ^ 16) (wt : wtT t ≤ 2 ^ 16) (hsz : szT x + szT y ≤ 40) (hst : szT t ≤ 30) {e f : EnvA}
  (he : NewOK (newBy [([116], x), ([117], y)]) e) (hf : NewOK (newBy [([117], y), ([116], x), ([116], z)]) f) :
  ∃ b1 b2 C, EnvS b1 e C ∧ EnvS b2 f C ∧ OrdW e f C t := by
 have n1 := newBy_nodup [([116], x), ([117], y)]
 have n2 := newBy_nodup [([117], y), ([116], x), ([116], z)]
 have e1 : newBy [([116], x), ([117], y)] = [([116], normT x), ([117], normT y)] := rfl
 have e2 : newBy [([117], y), ([116], x), ([116], z)] = [([117], normT y), ([116], normT x)] := rfl
 rw [e1] at he n1
 rw [e2] at hf n2
 have k1 := wt_normT x
 have k2 := wt_normT y
 have k3 := wt_normT t
 have s1 := sz_normT x
 have s2 := sz_normT y
 have s3 := sz_normT t
 have hbs : ∀ b ∈ [normT x, normT y, normT t], NT b ∧ wtT b ≤ 2 ^ 19 ∧ szT b ≤ 100 := fun b hb => by
  simp only [List.mem_cons, List.not_mem_nil, or_false] at hb
  rcases hb with rfl | rfl | rfl
  ·exact ⟨normT_nt hx, by omega, by omega⟩
  ·exact ⟨normT_nt hy, by omega, by omega⟩
  ·exact ⟨normT_nt ht, by omega, by omega⟩
 have W1 : EnvS [([116], normT x), ([117], normT y)] e ([normT x, normT y, normT t].flatMap subsT) := envS_gen he n1 _ (fun p hp => by
   simp only [List.mem_cons, List.not_mem_nil, or_false] at hp
   rcases hp with rfl | rfl <;> simp) (fun b hb => (hbs b hb).1) (fun b hb => (hbs b hb).2.1) (fun b hb => (hbs b hb).2.2) (by simp) (by simp) (by simp; omega)
 have W2 : EnvS [([117], normT y), ([116], normT x)] f ([normT x, normT y, normT t].flatMap subsT) := envS_gen hf n2 _ (fun p hp => by
   simp only [List.mem_cons, List.not_mem_nil, or_false] at hp
   rcases hp with rfl | rfl <;> simp) (fun b hb => (hbs b hb).1) (fun b hb => (hbs b hb).2.1) (fun b hb => (hbs b hb).2.2) (by simp) (by simp) (by simp; omega)
 have hm : normT t ∈ [normT x, normT y, normT t].flatMap subsT := List.mem_flatMap.2 ⟨_, by simp, subs_self _⟩
 have hE := fun nm => EmptyN.congr (fun nm => (ord_look (normT x) (normT y) nm).1) (fun nm => (ord_look (normT x) (normT y) nm).2) nm
 refine ⟨_, _, _, W1, W2, ⟨ht, by omega, hm⟩, ?_, fun nm => ?_⟩
 ·unfold showT
  rw [whole_congr W1.toEnvW W2.toEnvW hm hm fun v => ⟨Spr.congr (fun nm => (ord_look (normT x) (normT y) nm).1) hE, Spr.congr (fun nm => (ord_look (normT x) (normT y) nm).1.symm) fun nm => (hE nm).symm⟩]
 ·rw [Bool.eq_iff_iff, empty_right he n1, empty_right hf n2]
  exact hE nm
theorem EnvAt.agree {e : EnvA} {H H' : Heap} {a : Nat} (h : EnvAt e H a) (ha : agree H.length H H') : EnvAt e H' a := by
 have key : ∀ {i : Nat} {o : AObj}, H[i]? = some o → ((∀ m t, o ≠ .tail m t) ∧ ∀ v xs t, o ≠ .arr v xs t) → o ≠ .dead → H'[i]? = some o := fun {i o} h1 h2 h3 => by
  refine ha.2 i o ?_ h1 h2 h3
  rcases Nat.lt_or_ge i H.length with h | h
  ·exact h
  ·rw [List.getElem?_eq_none h] at h1; cases h1
 exact ⟨key h.h0 ⟨fun _ _ => by simp, fun _ _ _ => by simp⟩ (by simp), key h.h1 ⟨fun _ _ => by simp, fun _ _ _ => by simp⟩ (by simp), key h.h2 ⟨fun _ _ => by simp, fun _ _ _ => by simp⟩ (by simp)⟩
theorem EK.soft {f : Nat} {args : List AVal} {e : EnvA} {y : AVal} (h : EK L f args e y) (ha : ∀ x ∈ args, Low 0 x) (hy : Low 0 y) {H0 : Heap} {a : Nat} (hA : EnvAt e H0 a) {K : AVal → Prop} (hk : K y) :
  ∃ v, (∀ H', Go.Ag.agree H0.length H0 H' → ACalls L f (.ptr (a + 2) 0 :: args) H' fun r H'' => r = .ret v ∧ H'' = H') ∧ K v :=
 ⟨y, fun H' hg => (h.any ha hy (hA.agree hg) (K := fun v H'' => v = y ∧ H'' = H') (KP := fun _ _ => False) ⟨rfl, rfl⟩).mono fun r H'' hq => by
  cases r with
  | ret v => exact ⟨by rw [hq.1], hq.2⟩
  | pan v => exact hq.elim, hk⟩
theorem i64_small {a : Int} (h : 0 ≤ a) (h2 : a ≤ 2 ^ 60) : IntKind.i64.wrap a = a := IntWalk.i64_in _ (by omega)
def ocell (s : List TA) : Heap := s.map tcell
theorem AliasOrder_spec (F : OrdFns T) (a b c d : Bytes) : Pure T.L 128 [.str a, .str b, .str c, .str d] (.bool true) := by
  have tA := Type_spec F.toTypeFns
  refine Pure.run (LowL.at ⟨.str _, .str _, .str _, .str _, trivial⟩) (.bool _) ?_
  refine acalls_of F.h128 (by simp [c_128]) ?_
  show xcode T.L c_128.body (fun i => [AVal.str a, .str b, .str c, .str d].getD i .undef) [] _
  refine spine_cut (P := fun e H => a.length ≤ 200 ∧ b.length ≤ 200 ∧ c.length ≤ 200 ∧ d.length ≤ 200 ∧ H = [] ∧ envHas e [(0, .str a), (1, .str b), (2, .str c), (3, .str d)]) 3 _ _ _ (xcodeG_sound _ _ _ _ ?_) fun e1 H1 ⟨h1, h2, h3, h4, eH, he⟩ => ?_
  · have stop : ∀ {s : Bytes}, ¬ s.length ≤ 200 → decide ((s.length : Int) > 200) = true := fun h => decide_eq_true (by omega)
    have go : ∀ {s : Bytes}, s.length ≤ 200 → decide ((s.length : Int) > 200) = false := fun h => decide_eq_false (by omega)
    conv => whnf
    refine (alive_spec8 F.toLaw8Fns).to ?_
    conv => whnf
    by_cases h1 : a.length ≤ 200
    case neg =>
      rw [stop h1]
      conv => whnf
      exact ret_weak (Weak.refl _)
    rw [go h1]
    conv => whnf
    by_cases h2 : b.length ≤ 200
    case neg =>
      rw [stop h2]
      conv => whnf
      exact ret_weak (Weak.refl _)
    rw [go h2]
    conv => whnf
    by_cases h3 : c.length ≤ 200
    case neg =>
      rw [stop h3]
      conv => whnf
      exact ret_weak (Weak.refl _)
    rw [go h3]
    conv => whnf
    by_cases h4 : d.length ≤ 200
    case neg =>
      rw [stop h4]
      conv => whnf
      exact ret_weak (Weak.refl _)
    rw [go h4]
    conv => whnf
    exact ⟨h1, h2, h3, h4, rfl, rfl, rfl, rfl, rfl, trivial⟩
  subst eH
  have wT : ∀ s : Bytes, s.length ≤ 200 → (typeP s).2 = true → GT (typeP s).1 ∧ wtT (typeP s).1 ≤ 2 ^ 16 := fun s hs h => by
    have h1 := typeP_good s (by omega) h
    have : (s.length + 82) * (s.length + 1) ≤ 282 * 201 := Nat.mul_le_mul (by omega) (by omega)
    exact ⟨h1.1, by omega⟩
  have xA := tA a (by omega)
  have xB := tA b (by omega)
  have xC := tA c (by omega)
  have xD := tA d (by omega)
  have gA := wT a h1
  have gB := wT b h2
  have gC := wT c h3
  have gD := wT d h4
  generalize typeP a = p1 at xA gA
  generalize typeP b = p2 at xB gB
  generalize typeP c = p3 at xC gC
  generalize typeP d = p4 at xD gD
  obtain ⟨x, q1⟩ := p1
  obtain ⟨y, q2⟩ := p2
  obtain ⟨z, q3⟩ := p3
  obtain ⟨t, q4⟩ := p4
  dsimp only at xA xB xC xD gA gB gC gD
  refine spine_cut (P := fun e H => H = ocell [x, y, z, t] ∧ envHas e [(9, .ptr 0 0), (10, .bool q1), (11, .ptr 1 0), (12, .bool q2), (13, .ptr 2 0), (14, .bool q3), (15, .ptr 3 0), (16, .bool q4)]) 4 _ _ _ (xcodeG_sound _ _ _ _ ?_) fun e2 H2 ⟨eH, he2⟩ => ?_
  · rw [← setL_id he]
    obtain ⟨xk, xn, xs, xl⟩ := x
    obtain ⟨yk, yn, ys, yl⟩ := y
    obtain ⟨zk, zn, zs, zl⟩ := z
    obtain ⟨tk, tn, ts, tl⟩ := t
    conv => whnf
    refine xA.to ?_
    conv => whnf
    refine xB.to ?_
    conv => whnf
    refine xC.to ?_
    conv => whnf
    refine xD.to ?_
    conv => whnf
    exact ⟨rfl, rfl, rfl, rfl, rfl, rfl, rfl, rfl, rfl, trivial⟩
  subst eH
  refine spine_cut (P := fun e H => GT x ∧ GT y ∧ GT z ∧ GT t ∧ wtT x ≤ 2 ^ 16 ∧ wtT y ≤ 2 ^ 16 ∧ wtT z ≤ 2 ^ 16 ∧ wtT t ≤ 2 ^ 16 ∧ szT x + szT y ≤ 40 ∧ szT t ≤ 30 ∧ H = ocell [x, y, z, t] ∧ envHas e [(9, .ptr 0 0), (11, .ptr 1 0), (13, .ptr 2 0), (15, .ptr 3 0)]) 1 _ _ _ (xcodeG_sound _ _ _ _ ?_) fun e3 H3 ⟨gx, gy, gz, gt, wx, wy, wz, wt, hsz, hst, eH, he3⟩ => ?_
  · rw [← setL_id he2]
    have sx := Size_spec F.toSizFns x
    have sy := Size_spec F.toSizFns y
    have sz := Size_spec F.toSizFns z
    have st := Size_spec F.toSizFns t
    have lx := all_len _ x (Nat.le_refl _)
    have ly := all_len _ y (Nat.le_refl _)
    have lz := all_len _ z (Nat.le_refl _)
    have lt := all_len _ t (Nat.le_refl _)
    rw [show (allT x).length = szT x from rfl] at lx
    rw [show (allT y).length = szT y from rfl] at ly
    rw [show (allT z).length = szT z from rfl] at lz
    rw [show (allT t).length = szT t from rfl] at lt
    obtain ⟨xk, xn, xs, xl⟩ := x
    obtain ⟨yk, yn, ys, yl⟩ := y
    obtain ⟨zk, zn, zs, zl⟩ := z
    obtain ⟨tk, tn, ts, tl⟩ := t
    cases q1
    case false =>
      conv => whnf
      exact ret_weak (Weak.refl _)
    cases q2
    case false =>
      conv => whnf
      exact ret_weak (Weak.refl _)
    cases q3
    case false =>
      conv => whnf
      exact ret_weak (Weak.refl _)
    cases q4
    case false =>
      conv => whnf
      exact ret_weak (Weak.refl _)
    obtain ⟨gx, wx⟩ := gA rfl
    obtain ⟨gy, wy⟩ := gB rfl
    obtain ⟨gz, wz⟩ := gC rfl
    obtain ⟨gt, wt⟩ := gD rfl
    have sx := sx (by omega)
    have sy := sy (by omega)
    have sz := sz (by omega)
    have st := st (by omega)
    have hfin : szT (.mk xk xn xs xl) + szT (.mk yk yn ys yl) ≤ 40 → szT (.mk tk tn ts tl) ≤ 30 → _ := fun hs ht => And.intro gx (And.intro gy (And.intro gz (And.intro gt (And.intro wx (And.intro wy (And.intro wz (And.intro wt (And.intro hs ht))))))))
    generalize szT (.mk xk xn xs xl) = n1 at sx lx hfin
    generalize szT (.mk yk yn ys yl) = n2 at sy ly hfin
    generalize szT (.mk zk zn zs zl) = n3 at sz lz
    generalize szT (.mk tk tn ts tl) = n4 at st lt hfin
    conv => whnf
    refine sx.soft ?_
    conv => whnf
    refine sy.soft ?_
    conv => whnf
    refine sz.soft ?_
    conv => whnf
    rw [i64_small (a := (n1 : Int) + n2) (by omega) (by omega), i64_small (a := (n1 : Int) + n2 + n3) (by omega) (by omega)]
    by_cases hs : n1 + n2 + n3 ≤ 40
    case neg => rw [show decide ((n1 : Int) + n2 + n3 > 40) = true from decide_eq_true (by omega)]
                conv => whnf
                exact ret_weak (Weak.refl _)
    rw [show decide ((n1 : Int) + n2 + n3 > 40) = false from decide_eq_false (by omega)]
    conv => whnf
    refine st.soft ?_
    conv => whnf
    by_cases ht : n4 ≤ 30
    case neg => rw [show decide ((n4 : Int) > 30) = true from decide_eq_true (by omega)]
                conv => whnf
                exact ret_weak (Weak.refl _)
    rw [show decide ((n4 : Int) > 30) = false from decide_eq_false (by omega)]
    conv => whnf
    obtain ⟨k1, k2, k3, k4, k5, k6, k7, k8, k9, k10⟩ := hfin (by omega) ht
    exact ⟨k1, k2, k3, k4, k5, k6, k7, k8, k9, k10, rfl, rfl, rfl, rfl, rfl, trivial⟩
  subst eH
  have hN : ∀ t : TA, GT t → wtT t ≤ 2 ^ 16 → okN t ∧ wtT (normT t) ≤ 2 ^ 40 := fun t h1 h2 => ⟨okN_gt h1 (by omega), by have := wt_normT t; omega⟩
  have hnew1 := New_at F.toAliFns2 [([116], x), ([117], y)] (by simp) (fun p hp => by
    simp only [List.mem_cons, List.not_mem_nil, or_false] at hp
    rcases hp with rfl | rfl
    · exact (hN x gx wx).1
    · exact (hN y gy wy).1) (fun p hp => by
    obtain ⟨q, hq, rfl⟩ := newBy_mem hp
    simp only [List.mem_cons, List.not_mem_nil, or_false] at hq
    rcases hq with rfl | rfl
    · exact (hN x gx wx).2
    · exact (hN y gy wy).2)
  have hnew2 := New_at F.toAliFns2 [([117], y), ([116], x), ([116], z)] (by simp) (fun p hp => by
    simp only [List.mem_cons, List.not_mem_nil, or_false] at hp
    rcases hp with rfl | rfl | rfl
    · exact (hN y gy wy).1
    · exact (hN x gx wx).1
    · exact (hN z gz wz).1) (fun p hp => by
    obtain ⟨q, hq, rfl⟩ := newBy_mem hp
    simp only [List.mem_cons, List.not_mem_nil, or_false] at hq
    rcases hq with rfl | rfl | rfl
    · exact (hN y gy wy).2
    · exact (hN x gx wx).2
    · exact (hN z gz wz).2)
  refine spine_cut (P := fun e H => ∃ e1 f1 : EnvA, NewOK (newBy [([116], x), ([117], y)]) e1 ∧ NewOK (newBy [([117], y), ([116], x), ([116], z)]) f1 ∧ EnvAt e1 H 4 ∧ EnvAt f1 H 7 ∧ H[3]? = some (tcell t) ∧ envHas e [(15, .ptr 3 0), (17, .ptr 6 0), (18, .ptr 9 0)]) 2 _ _ _ (xcodeG_sound _ _ _ _ ?_) fun e4 H4 ⟨e1, f1, hk1, hk2, hA1, hA2, hc3, he4⟩ => ?_
  · rw [← setL_id he3]
    obtain ⟨xk, xn, xs, xl⟩ := x
    obtain ⟨yk, yn, ys, yl⟩ := y
    obtain ⟨zk, zn, zs, zl⟩ := z
    obtain ⟨tk, tn, ts, tl⟩ := t
    conv => whnf
    refine (hnew1 _ _).mono fun r H' ⟨en, hok, e1, e2⟩ => ?_
    subst e1 e2
    conv => whnf
    refine (hnew2 _ _).mono fun r H' ⟨fn, hok2, e1, e2⟩ => ?_
    subst e1 e2
    conv => whnf
    exact ⟨en, fn, hok, hok2, ⟨rfl, rfl, rfl⟩, ⟨rfl, rfl, rfl⟩, rfl, rfl, rfl, rfl, trivial⟩
  obtain ⟨b1, b2, C, W1, W2, hw⟩ := ord_w gx gy gt wx wy wt hsz hst hk1 hk2
  have s1 := W1.show_at F.toAliFns F.h145 hw.gc
  have s2 := W2.show_at F.toAliFns F.h145 hw.gc
  rw [← hw.show_] at s2
  have m1 := empty_spec F.toAliFns e1 [116]
  have m2 := empty_spec F.toAliFns e1 [117]
  have n1 := empty_spec F.toAliFns f1 [116]
  have n2 := empty_spec F.toAliFns f1 [117]
  rw [← hw.emp] at n1 n2
  generalize showT e1 t = s at s1 s2
  generalize emptyP e1 [116] = m at m1 n1
  generalize emptyP e1 [117] = n at m2 n2
  refine xcodeG_sound _ _ _ _ ?_
  rw [← setL_id he4]
  obtain ⟨tk, tn, ts, tl⟩ := t
  have hl := load_all (k := 4) hc3 rfl
  have hp : ptrOK H4.length (.ptr 3 0) = true := by
    rcases Nat.lt_or_ge 3 H4.length with h | h
    · simpa [ptrOK] using h
    · rw [List.getElem?_eq_none h] at hc3; cases hc3
  have lq : ∀ q : TA, ∀ z ∈ [q.av], Low 0 z := fun q => low1 (low_ta 0 q)
  have ls : ∀ q : Bytes, ∀ z ∈ [AVal.str q], Low 0 z := fun q => low1 (.str _)
  conv => whnf
  rw [hp]
  refine step_load hl ?_
  conv => whnf
  refine s1.soft (lq _) (.str _) hA1 ?_
  conv => whnf
  rw [hp]
  refine step_load hl ?_
  conv => whnf
  refine s2.soft (lq _) (.str _) hA2 ?_
  conv => whnf
  rw [show (s == s) = true from by simp]
  conv => whnf
  refine m1.soft (ls _) (.bool _) hA1 ?_
  conv => whnf
  refine n1.soft (ls _) (.bool _) hA2 ?_
  conv => whnf
  rw [show ((m == m) != false) = true from by cases m <;> rfl]
  conv => whnf
  refine m2.soft (ls _) (.bool _) hA1 ?_
  conv => whnf
  refine n2.soft (ls _) (.bool _) hA2 ?_
  conv => whnf
  rw [show ((n == n) != false) = true from by cases n <;> rfl]
  exact ret_weak (Weak.refl _)
end Go.Ag
/- Package types: the library's CompactFunc of keyed types, walked. -/
namespace Go.Ag
open Go
variable {T : Tab} {L : Lnk}
def zkv : AVal := .agg [.int .i64 0, .str [], .lst [] .nil, .lst [] .nil, .str []]
structure DStep (xs A : List (TA × Bytes)) (p m : Nat) : Prop where
 len : A.length = xs.length
 front : A.take m = dedK (xs.take p)
 m_eq : m = (dedK (xs.take p)).length
 pos : 1 ≤ p
 lt : m < p
 back : A.drop (p - 1) = xs.drop (p - 1)
theorem DStep.at {xs A : List (TA × Bytes)} {p m : Nat} (h : DStep xs A p m) {j : Nat} (h1 : p - 1 ≤ j) : A[j]? = xs[j]? := by
 have e1 : A[j]? = (A.drop (p - 1))[j - (p - 1)]? := by rw [List.getElem?_drop]; congr 1; omega
 have e2 : xs[j]? = (xs.drop (p - 1))[j - (p - 1)]? := by rw [List.getElem?_drop]; congr 1; omega
 rw [e1, e2, h.back]
theorem DStep.skip {xs A : List (TA × Bytes)} {p m : Nat} (h : DStep xs A p m) (hp : p < xs.length) (he : (xs[p].2 == (xs[p - 1]'(by omega)).2) = true) : DStep xs A (p + 1) m := by
 have h1 := dedK_snoc xs p h.pos hp
 rw [if_pos he, List.append_nil] at h1
 refine ⟨h.len, by rw [h1]; exact h.front, by rw [h1]; exact h.m_eq, by omega, by have := h.lt; omega, ?_⟩
 have e1 : A.drop p = (A.drop (p - 1)).drop 1 := by rw [List.drop_drop]; congr 1; have := h.pos; omega
 have e2 : xs.drop p = (xs.drop (p - 1)).drop 1 := by rw [List.drop_drop]; congr 1; have := h.pos; omega
 show A.drop p = xs.drop p
 rw [e1, e2, h.back]
theorem DStep.take {xs A : List (TA × Bytes)} {p m : Nat} (h : DStep xs A p m) (hp : p < xs.length) (he : (xs[p].2 == (xs[p - 1]'(by omega)).2) = false) : DStep xs (A.take m ++ [xs[p]] ++ A.drop (m + 1)) (p + 1) (m + 1) := by
 have h1 := dedK_snoc xs p h.pos hp
 rw [if_neg (by rw [he]; simp)] at h1
 have hlt := h.lt
 have hlen := h.len
 have hml : (A.take m).length = m := by rw [List.length_take]; omega
 have e0 : (A.take m ++ [xs[p]]).length = m + 1 := by simp [hml]
 refine ⟨by simp; omega, ?_, by rw [h1, List.length_append, ← h.m_eq]; rfl, by omega, by omega, ?_⟩
 ·rw [List.take_append_of_le_length (by omega), List.take_of_length_le (by omega), h1, h.front]
 ·show List.drop p _ = List.drop p xs
  rw [List.drop_append, List.drop_of_length_le (by omega : (A.take m ++ [xs[p]]).length ≤ p), List.nil_append, e0, List.drop_drop]
  have e1 : A.drop p = (A.drop (p - 1)).drop 1 := by rw [List.drop_drop]; congr 1; have := h.pos; omega
  have e2 : xs.drop p = (xs.drop (p - 1)).drop 1 := by rw [List.drop_drop]; congr 1; have := h.pos; omega
  rw [show m + 1 + (p - (m + 1)) = p from by omega, e1, e2, h.back]
theorem low_zkv (n : Nat) : Low n zkv := .agg _ (LowL.at ⟨.int _ _, .str _, .lst _ _ trivial (by simp), .lst _ _ trivial (by simp), .str _, trivial⟩)
theorem okB_kv (u : TA × Bytes) : okB 5 (AVal.agg (kv u).cells) = true := by
 obtain ⟨⟨k, nm, ns, l⟩, s⟩ := u
 rfl
theorem clr_kv {xs A : List (TA × Bytes)} {n t m r : Nat} (hr : m + (r + 1) = n) (hA : A.length = n) (hf : A.take m = dedK xs) :
  clrM 5 (.agg [.int .i64 0, .str [], .lst [] .nil, .lst [] .nil, .str []]) [.arr n (kvs A) t] (.vec 0 n 5 (0 + m) (r + 1)) = some [.arr n (kvs (dedK xs) ++ List.replicate (r + 1) zkv) t] := by
 rw [Nat.zero_add, clrM]
 simp only [List.getElem?_cons_zero]
 rw [if_pos ⟨trivial, trivial, by rw [kvs_length]; omega, by rw [List.all_eq_true]; exact fun y hy => by simpa using kvs_len5 A y hy⟩]
 have e1 : (kvs A).take m = kvs (dedK xs) := by rw [← hf]; simp [kvs, List.map_take]
 have e2 : (kvs A).drop (m + (r + 1)) = [] := List.drop_of_length_le (by rw [kvs_length]; omega)
 rw [e1, e2, List.append_nil]
 rfl
theorem sub1 {k : Nat} (h1 : 1 ≤ k) (h : k < 9223372036854775808) : IntKind.i64.wrap ((k : Int) - 1) = ((k - 1 : Nat) : Int) := by
 rw [IntWalk.i64_in _ (by omega)]; omega
theorem compact_walk (F : CompFns T) (xs : List (TA × Bytes)) (n t : Nat) (hn : n = xs.length) (hne : xs ≠ []) (hl : n ≤ 2 ^ 40) :
  ACalls T.L 255 [.vec 0 n 5 0 n, .fn (.func 256) [] []] [.arr n (kvs xs) t] fun r H' => r = .ret (.vec 0 n 5 0 (dedK xs).length) ∧ ∃ rest J : List _, (∀ x ∈ rest, Low 0 x ∧ x.cells.length = 5) ∧ (dedK xs).length + rest.length = n ∧ H' = [.arr n (kvs (dedK xs) ++ rest) t] ++ J := by
 have heq := eqk_spec F.h256
 have hpos : 0 < xs.length := List.length_pos_iff.2 hne
 have hk5 := kvs_len5 xs
 refine acallsG F.h255 (by simp [c_255]) ?_
 conv => whnf
 have e2 : ((n : Int) < 2) = (n < 2) := by apply propext; omega
 cases hn2 : decide ((n : Int) < 2)
 ·have hn2' : 2 ≤ n := by simp at hn2; omega
  conv => whnf
  intro I hI hG
  have key : ∀ (d i : Nat) (e : Env), n - i = d → 1 ≤ i → i ≤ n → dedK (xs.take i) = xs.take i → I (setL e [(0, .vec 0 n 5 0 n), (1, .fn (.func 256) [] []), (5, .int .i64 i)]) [.arr n (kvs xs) t] := by
   intro d
   induction d with
   | zero =>
    intro i e hd h1 hi hded
    apply hI
    conv => whnf
    rw [lt_false (by omega)]
    conv => whnf
    have : xs.take i = xs := List.take_of_length_le (by omega)
    rw [this] at hded
    refine ⟨?_, [], [], (by simp), ?_, ?_⟩
    ·rw [hded, ← hn]; rfl
    ·rw [hded, hn]; rfl
    ·rw [hded, List.append_nil, List.append_nil]
   | succ d ihd =>
    intro i e hd h1 hi hded
    have hin : i < n := by omega
    have hix : i < xs.length := by omega
    apply hI
    conv => whnf
    rw [lt_true hin]
    conv => whnf
    refine ⟨⟨Int.natCast_nonneg _, by omega, rfl⟩, ?_⟩
    conv => whnf
    rw [sub1 h1 (by omega)]
    refine ⟨⟨Int.natCast_nonneg _, by omega, rfl⟩, ?_⟩
    conv => whnf
    have ha : (0 + ((i : Nat) : Int).toNat) * 5 = i * 5 := by simp
    have hb : (0 + ((i - 1 : Nat) : Int).toNat) * 5 = (i - 1) * 5 := by simp
    rw [ha, hb]
    have hgi : (kvs xs)[i]? = some (kv xs[i]) := by simp [kvs, List.getElem?_map, List.getElem?_eq_getElem hix]
    have hgj : (kvs xs)[i - 1]? = some (kv (xs[i - 1]'(by omega))) := by simp [kvs, List.getElem?_map, List.getElem?_eq_getElem (show i - 1 < xs.length by omega)]
    have hsn : (xs[i].2 == (xs[i - 1]'(by omega)).2) = false → dedK (xs.take (i + 1)) = xs.take (i + 1) := fun he => by
     have h2 := dedK_snoc xs i h1 hix
     rw [if_neg (by rw [he]; simp), hded] at h2
     rw [h2, List.take_succ_eq_append_getElem hix]
    have hq := heq xs[i] (xs[i - 1]'(by omega))
    have hsk : (xs[i].2 == (xs[i - 1]'(by omega)).2) = true → DStep xs xs (i + 1) i := fun he => by
     have h2 := dedK_snoc xs i h1 hix
     rw [if_pos he, List.append_nil, hded] at h2
     exact ⟨rfl, h2.symm, by rw [h2, List.length_take]; omega, by omega, by omega, rfl⟩
    generalize xs[i] = u at hgi hsn hq hsk
    generalize xs[i - 1]'(by omega) = w at hgj hsn hq hsk
    refine step_load (load_kv rfl hk5 hgi) ?_
    conv => whnf
    refine step_load (load_kv rfl hk5 hgj) ?_
    conv => whnf
    refine hq.to ?_
    conv => whnf
    have hi1 : i + 1 < 9223372036854775808 := by omega
    cases huw : (u.2 == w.2)
    ·conv => whnf
     exact hG.keep [(0, .vec 0 n 5 0 n), (1, .fn (.func 256) [] []), (5, .int .i64 (i + 1 : Nat))] [.arr n (kvs xs) t] (Nat.le_refl 1) rfl ⟨rfl, rfl, add1 hi1, trivial⟩
      ⟨.vec _ _ _ _ _ (by decide : 0 < 1), .fn _ _ _ low0 low0, .int _ _, trivial⟩ ⟨low_kvs 1 xs, trivial⟩ (ihd (i + 1) _ (by omega) (by omega) (by omega) (hsn huw))
    ·have hst := hsk huw
     clear hsk hsn hq ihd hgi hgj ha hb huw
     conv => whnf
     refine ⟨⟨by omega, by omega, by omega, rfl⟩, ?_⟩
     conv => whnf
     rw [Int.toNat_natCast]
     intro J hJ hGJ
     have keyI : ∀ (d k m : Nat) (A : List (TA × Bytes)) (e : Env), n - (i + k) = d → 1 ≤ k → i + k ≤ n → DStep xs A (i + k) m → J (setL e [(0, .vec 0 n 5 0 n), (1, .fn (.func 256) [] []), (5, .int .i64 m), (6, .vec 0 n 5 i (n - i)), (7, .int .i64 k)]) [.arr n (kvs A) t] := by
      intro d
      induction d with
      | zero =>
       intro k m A e hd hk1 hk hst
       apply hJ
       conv => whnf
       rw [lt_false (by omega)]
       conv => whnf
       have hmn : m < n := by have := hst.lt; omega
       obtain ⟨r, hr⟩ : ∃ r, n - m = r + 1 := ⟨n - m - 1, by omega⟩
       refine ⟨⟨by omega, by omega, by omega, rfl⟩, ?_⟩
       conv => whnf
       rw [Int.toNat_natCast, hr]
       conv => whnf
       have hend : i + k = n := by omega
       rw [hend] at hst
       have hxt : xs.take n = xs := List.take_of_length_le (by omega)
       have hfr := hst.front
       have hm := hst.m_eq
       rw [hxt] at hfr hm
       rw [clr_kv (by omega) (by rw [hst.len]; omega) hfr]
       conv => whnf
       refine ⟨⟨by omega, by omega, by omega, rfl⟩, ?_⟩
       conv => whnf
       refine ⟨by rw [← hm]; rfl, List.replicate (r + 1) zkv, [], fun x hx => ?_, by rw [List.length_replicate, ← hm]; omega, by rw [List.append_nil]⟩
       rw [List.eq_of_mem_replicate hx]
       exact ⟨low_zkv 0, rfl⟩
      | succ d ihd =>
       intro k m A e hd hk1 hk hst
       apply hJ
       conv => whnf
       rw [lt_true (by omega)]
       conv => whnf
       have hpx : i + k < xs.length := by omega
       have hA5 := kvs_len5 A
       have hAl := hst.len
       have hlt := hst.lt
       refine ⟨⟨Int.natCast_nonneg _, by omega, rfl⟩, ?_⟩
       conv => whnf
       rw [sub1 hk1 (by omega)]
       refine ⟨⟨Int.natCast_nonneg _, by omega, rfl⟩, ?_⟩
       conv => whnf
       have ha : (i + ((k : Nat) : Int).toNat) * 5 = (i + k) * 5 := by simp
       have hb : (i + ((k - 1 : Nat) : Int).toNat) * 5 = (i + k - 1) * 5 := by rw [Int.toNat_natCast]; congr 1; omega
       rw [ha, hb]
       have hgi : (kvs A)[i + k]? = some (kv xs[i + k]) := by simp [kvs, List.getElem?_map, hst.at (j := i + k) (by omega), List.getElem?_eq_getElem hpx]
       have hgj : (kvs A)[i + k - 1]? = some (kv (xs[i + k - 1]'(by omega))) := by simp [kvs, List.getElem?_map, hst.at (j := i + k - 1) (by omega), List.getElem?_eq_getElem (show i + k - 1 < xs.length by omega)]
       have hq := heq xs[i + k] (xs[i + k - 1]'(by omega))
       have hskip := hst.skip hpx
       have htake := hst.take hpx
       generalize xs[i + k] = u at hgi hq hskip htake
       generalize xs[i + k - 1]'(by omega) = w at hgj hq hskip htake
       refine step_load (load_kv rfl hA5 hgi) ?_
       conv => whnf
       refine step_load (load_kv rfl hA5 hgj) ?_
       conv => whnf
       refine hq.to ?_
       conv => whnf
       have hk1' : k + 1 < 9223372036854775808 := by omega
       have hm1' : m + 1 < 9223372036854775808 := by omega
       cases huw : (u.2 == w.2)
       ·have hst' := htake huw
        conv => whnf
        refine ⟨⟨Int.natCast_nonneg _, by omega, rfl⟩, ?_⟩
        conv => whnf
        rw [ha]
        refine step_load (load_kv rfl hA5 hgi) ?_
        conv => whnf
        refine ⟨⟨Int.natCast_nonneg _, by omega, rfl⟩, ?_⟩
        conv => whnf
        rw [okB_kv u, show (0 + ((m : Nat) : Int).toNat) * 5 = m * 5 from by simp, store_kv (H := [.arr n (kvs A) t]) (x := .agg (kv u).cells) (i := m) rfl hA5 (kcell_len u) (by rw [kvs_length]; omega)]
        rw [show (kvs A).take m ++ [AVal.agg (kv u).cells] ++ (kvs A).drop (m + 1) = kvs (A.take m ++ [u] ++ A.drop (m + 1)) from by simp [kvs, List.map_take, List.map_drop]; rfl]
        generalize A.take m ++ [u] ++ A.drop (m + 1) = A' at hst' ⊢
        conv => whnf
        exact hGJ.keep [(0, .vec 0 n 5 0 n), (1, .fn (.func 256) [] []), (5, .int .i64 (m + 1 : Nat)), (6, .vec 0 n 5 i (n - i)), (7, .int .i64 (k + 1 : Nat))] [.arr n (kvs A') t] (Nat.le_refl 1) rfl ⟨rfl, rfl, add1 hm1', rfl, add1 hk1', trivial⟩
         ⟨.vec _ _ _ _ _ (by decide : 0 < 1), .fn _ _ _ low0 low0, .int _ _, .vec _ _ _ _ _ (by decide : 0 < 1), .int _ _, trivial⟩ ⟨low_kvs 1 A', trivial⟩ (ihd (k + 1) (m + 1) A' _ (by omega) (by omega) (by omega) hst')
       ·have hst' := hskip huw
        conv => whnf
        exact hGJ.keep [(0, .vec 0 n 5 0 n), (1, .fn (.func 256) [] []), (5, .int .i64 m), (6, .vec 0 n 5 i (n - i)), (7, .int .i64 (k + 1 : Nat))] [.arr n (kvs A) t] (Nat.le_refl 1) rfl ⟨rfl, rfl, rfl, rfl, add1 hk1', trivial⟩
         ⟨.vec _ _ _ _ _ (by decide : 0 < 1), .fn _ _ _ low0 low0, .int _ _, .vec _ _ _ _ _ (by decide : 0 < 1), .int _ _, trivial⟩ ⟨low_kvs 1 A, trivial⟩ (ihd (k + 1) m A _ (by omega) (by omega) (by omega) hst')
     exact inv_of [(0, .vec 0 n 5 0 n), (1, .fn (.func 256) [] []), (5, .int .i64 i), (6, .vec 0 n 5 i (n - i)), (7, .int .i64 (1 : Nat))] ⟨rfl, rfl, rfl, by rw [Nat.zero_add] <;> rfl, rfl, trivial⟩ (keyI _ 1 i xs _ rfl (Nat.le_refl 1) (by omega) hst)
  exact inv_of [(0, .vec 0 n 5 0 n), (1, .fn (.func 256) [] []), (5, .int .i64 (1 : Nat))] ⟨rfl, rfl, rfl, trivial⟩ (key _ 1 _ rfl (Nat.le_refl 1) (by omega) (by cases xs with
   | nil => cases hne rfl
   | cons x l => rfl))
 ·have hn1 : n = 1 := by simp at hn2; omega
  conv => whnf
  obtain ⟨x, rfl⟩ : ∃ x, xs = [x] := List.length_eq_one_iff.1 (by omega)
  refine ⟨by rw [hn1]; rfl, [], [], by simp, by rw [hn1]; rfl, by rw [List.append_nil, List.append_nil]; rfl⟩
theorem compact_small (F : CompFns T) (xs : List (TA × Bytes)) (n t : Nat) (hn : n = xs.length) (hne : xs ≠ []) (hl : n ≤ 2 ^ 40) :
  ACalls T.L 255 [.vec 0 n 5 0 n, .fn (.func 256) [] []] [.arr n (kvs xs) t] fun r H' => r = .ret (.vec 0 n 5 0 (dedK xs).length) ∧ ∃ rest : List _, (∀ x ∈ rest, Low 0 x ∧ x.cells.length = 5) ∧ (dedK xs).length + rest.length = n ∧ H' = [.arr n (kvs (dedK xs) ++ rest) t] := by
 refine (ACalls.gcR (Q := fun r H' => r = .ret (.vec 0 n 5 0 (dedK xs).length) ∧ ∃ rest : List _, (∀ x ∈ rest, Low 0 x ∧ x.cells.length = 5) ∧ (dedK xs).length + rest.length = n ∧ H' = [.arr n (kvs (dedK xs) ++ rest) t]) ((compact_walk F xs n t hn hne hl).mono fun r' H' ⟨e1, rest, J, hr, hlen, e2⟩ => ⟨.ret (.vec 0 n 5 0 (dedK xs).length), _, [.arr n (kvs (dedK xs) ++ rest) t], J, e2, by rw [e1]; exact Weak.refl _, .vec _ _ _ _ _ (by decide : 0 < 1), rfl, rfl, fun i o o' h1 h2 => by rw [h1] at h2; cases h2; exact WeakO.refl o, LowHs.at ⟨fun x hx => ?_, trivial⟩, rfl, rest, hr, hlen, rfl⟩)).mono fun r H' ⟨_, e1, q⟩ => ⟨e1, q⟩
 rcases List.mem_append.1 hx with hx | hx
 ·exact low_kvs 1 _ x hx
 ·exact (hr x hx).1.mono (Nat.zero_le 1)
theorem compact_spec (F : CompFns T) (xs : List (TA × Bytes)) (n id t : Nat) (H : Heap) (hH : H[id]? = some (.arr n (kvs xs) t)) (hn : n = xs.length) (hne : xs ≠ []) (hl : n ≤ 2 ^ 40) :
  ACalls T.L 255 [.vec id n 5 0 n, .fn (.func 256) [] []] H fun r H' => r = .ret (.vec id n 5 0 (dedK xs).length) ∧ ∃ rest : List AVal, (∀ x ∈ rest, Low 0 x ∧ x.cells.length = 5) ∧ (dedK xs).length + rest.length = n ∧ H' = H.set id (.arr n (kvs (dedK xs) ++ rest) t) := by
 have q0 : renO (nameOf [id] H.length) (.arr n (kvs xs) t) = .arr n (kvs xs) t := renO_low0 (show LowO 0 (.arr n (kvs xs) t) from low_kvs 0 xs)
 have hp : Part H [id] [.arr n (kvs xs) t] := by
  refine ⟨by simp, rfl, fun k i o hk ho => ?_⟩
  match k, hk, ho with
  | 0, hk, ho => cases hk; cases ho; rw [q0]; exact hH
  | k + 1, hk, ho => cases hk
 have hf := ACalls.frameL (compact_small F xs n t hn hne hl) [id] hp (.inr fun r H' ⟨_, rest, _, _, e⟩ => by rw [e]; exact Nat.le_refl 1)
 refine hf.mono fun r H' ⟨r1, H1', ⟨e1, rest, hr, hlen, e2⟩, _, e3, e4⟩ => ?_
 subst e1 e2
 refine ⟨e3, rest, hr, hlen, ?_⟩
 have q1 : renO (nameOf [id] H.length) (.arr n (kvs (dedK xs) ++ rest) t) = .arr n (kvs (dedK xs) ++ rest) t := renO_low0 (show LowO 0 (.arr n (kvs (dedK xs) ++ rest) t) from fun x hx => by
  rcases List.mem_append.1 hx with hx | hx
  ·exact low_kvs 0 _ x hx
  ·exact (hr x hx).1)
 rw [e4]
 simp only [List.length_cons, List.length_nil, List.take_succ_cons, List.take_zero, List.drop_succ_cons, List.drop_zero, List.map_cons, List.map_nil, List.append_nil, putL]
 exact congrArg (H.set id) q1
theorem compact0_spec (F : CompFns T) (H : Heap) : ACalls T.L 255 [.lst [] .nil, .fn (.func 256) [] []] H fun r H' => r = .ret (.lst [] .nil) ∧ H' = H := by
 have h0 : Pure T.L 255 [.lst [] .nil, .fn (.func 256) [] []] (.lst [] .nil) := by
  refine Pure.run (LowL.at ⟨.lst _ _ trivial (by simp), .fn _ _ _ low0 low0, trivial⟩) (.lst _ _ trivial (by simp)) (acallsG F.h255 (by simp [c_255]) ?_)
  conv => whnf
  exact ret_weak (Weak.refl _)
 exact h0 H
end Go.Ag
