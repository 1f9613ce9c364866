/- Our texts, joined by a program of ours (join.py): part 8 of 8. -/
import Derived.Test.YtjampheggjpjdaaGreatDoorTextG
import Derived.Deep.Draws
import Derived.Lib.IndexMore
import Derived.Lib.Join
import Derived.Lib.Bytealg
import Derived.Laws.AppendOwn
import Derived.Sort.EncStr
import Derived.Sort.Grow
import Derived.Sort.Row
import Derived.Shelf.GgSortFunc.InsertionK
import Derived.Lib.ParseIntB
import Derived.Lib.AtoiErrMem
set_option linter.unusedVariables false
/- Declarations of a source: types of its definitions are good and small; cupellaw08.Small, Made. -/
namespace Go.Ag
open Go
variable {T : Tab} {L : Lnk}
def Ka (B : Nat) (d : dS) : Prop := d.kind = 2 → kD d.name ∧ ∃ t, d.ts = [t] ∧ GT t ∧ wtT t ≤ B
theorem O8 {m n : Nat} {s : RS} (hs : s.ok) (hg : su m s) (hb : s.bad = false) (hf : 6 * s.rem + 8 ≤ n) (h : (fC n s).2.bad = false) : Ka (48 + (80 + m) * s.toks.length) (fC n s).1 := by
 have E : ∀ (t : cO) (ts : List TA) (s : RS), (uf n t ts s).1.kind ≠ 2 := fun t ts s => by show (3 : Int) ≠ 2; decide
 unfold fC at h ⊢
 split
 ·exact fun h2 => absurd (show (1 : Int) = 2 from h2) (by decide)
 ·rename_i h0
  rw [if_neg h0] at h
  split
  ·rename_i h1
   rw [if_pos h1] at h
   intro _
   have k1 := aK hs ni
   have hs1 := hs.of k1
   unfold declT at h ⊢
   dsimp only at h ⊢
   have hb4 := (iI h).1
   have hb3 : (aD (aJ (aD s ni)).2 kEq).bad = false := by
    cases hx : (aD (aJ (aD s ni)).2 kEq).bad
    ·rfl
    ·rw [(r9 n).1 _ _ hx, hx] at hb4; cases hb4
   obtain ⟨hb2, _, _⟩ := iI hb3
   obtain ⟨hb1, hk1, hnr⟩ := nU hb2
   have k2 := bK hs1
   have hs2 := hs1.of k2
   have k3 := aK hs2 kEq
   have hs3 := hs2.of k3
   have r1 := k1.rem
   have r2 := k2.rem
   have r3 := k3.rem
   have hg1 := hg.le k1
   have hg3 := (hg1.le k2).le k3
   have ht := (EU m n).typ 1 _ hs3 hg3 (by omega)
   have hle := (bL n).1 1 _ hs3
   refine ⟨?_, _, rfl, ht.1 hb4, Nat.le_trans ht.2 ?_⟩
   ·rw [hnr]
    exact (Ea hs1 hg1).1 hk1
   ·have h1 := hle.lt
    rw [(k1.trans (k2.trans k3)).toks] at h1
    exact Nat.add_le_add_left (Ao (by omega)) _
  ·rename_i h1
   split
   ·unfold AB
    split
    ·exact fun h2 => absurd h2 (E _ _ _)
    ·exact fun h2 => absurd h2 (E _ _ _)
   ·exact fun h2 => absurd (show (0 : Int) = 2 from h2) (by decide)
theorem sV (m n B : Nat) (ts : List cO) (hB : ∀ s : RS, s.toks = ts → s.ok → su m s → s.bad = false → 6 * s.rem + 8 ≤ n → (fC n s).2.bad = false → Ka B (fC n s).1) : ∀ (k : Nat) (l : List dS) (s : RS), s.toks = ts → s.okN k → su m s → s.bad = false → 6 * s.rem + 8 ≤ n → s.rem ≤ k → (∀ d ∈ l, Ka B d) → ∀ d ∈ (jl n k l s).1, Ka B d
 | 0, l, s, e, h, hg, hb, hf, hr, hl => hl
 | k + 1, l, s, e, h, hg, hb, hf, hr, hl => by
  rw [jl]
  split
  ·rename_i hk
   have hrr := vF (n := n) h hb (by simpa using hk)
   have hle := Bl (n := n) h.ok
   split
   ·rename_i hb2
    obtain ⟨k1, k2, k3⟩ := hrr.2 hb2
    have hgood : ({ (fC n s).2 with bad := false } : RS).ok := ((h.of hle).good).ok
    have ht : (iZ (oG (fC n s).2)).toks = s.toks := by
     have e1 := (A9 (fC n s).2.rem _ hgood)
     have e2 := F3 (hgood.of e1)
     exact (e2.toks.trans e1.toks).trans hle.toks
    exact sV m n B ts hB k l _ (ht.trans e) k1 (by unfold su; rw [ht]; exact hg) k3 (by omega) (by omega) hl
   ·rename_i hb2
    have hb2 : (fC n s).2.bad = false := by simpa using hb2
    obtain ⟨k1, k2⟩ := hrr.1 hb2
    refine sV m n B ts hB k _ _ (hle.toks.trans e) k1 (hg.le hle) hb2 (by omega) (by omega) fun d hd => ?_
    rcases List.mem_append.1 hd with hd | hd
    ·exact hl d hd
    ·simp only [List.mem_singleton] at hd; subst hd; exact hB s e h.ok hg hb hf hb2
  ·exact hl
theorem Ci (src : Bytes) (hs : src.length ≤ 2 ^ 31) : ∀ d ∈ (fQ src).1, Ka (48 + (src.length + 82) * (src.length + 1)) d := by
 obtain ⟨hok, hlen, hdl⟩ := mh src (by omega)
 have zK : (bE src).rem ≤ src.length + 1 := by unfold RS.rem; omega
 have hp : (bE src).pot ≤ (bE src).diags.length + 2 * (bE src).toks.length + 1 := by
  unfold RS.pot
  split <;> omega
 refine sV (src.length + 2) (nY src) _ (bE src).toks (fun s e h1 h2 h3 h4 h5 h6 => ?_) (bE src).rem [] (bE src) rfl ⟨hok.lt, hok.more, hok.len, hok.txt, by omega, hok.named, hok.num⟩ (wX src) rfl (Nat.le_refl _) (Nat.le_refl _) (fun d hd => by cases hd)
 have hd := O8 h1 h2 h3 h4 h5
 rw [e] at hd
 refine hd h6 |> fun ⟨a, t, b, c, d⟩ => ⟨a, t, b, c, Nat.le_trans d ?_⟩
 have h2 := Ao (c := src.length + 82) hlen
 have h3 : 80 + (src.length + 2) = src.length + 82 := by omega
 rw [h3]
 omega
end Go.Ag
/- Package cupellaw08: Small, Made. -/
namespace Go.Ag
open Go
variable {T : Tab} {L : Lnk}
structure y8 (T : Tab) : Prop extends Bt T, y7 T, GX T, Vz T, SI T where
 QT : T.has 147 Nn
 Va : T.has 148 Sk
 Ll : T.has 190 Nk
 Jo : T.has 145 Np
def MW (d : dS) : Bytes × TA := (d.name, d.ts.headD kW)
def kE (l : List dS) : List (Bytes × TA) := (l.filter (·.kind == 2)).map MW
theorem JH (l : List dS) (j : Nat) (h : j < l.length) : kE (l.take (j + 1)) = if l[j].kind == 2 then kE (l.take j) ++ [MW l[j]] else kE (l.take j) := by
 rw [List.take_succ_eq_append_getElem h]
 unfold kE
 rw [List.filter_append]
 cases hk : l[j].kind == 2
 ·rw [if_neg (by simp), show [l[j]].filter (·.kind == 2) = [] from by simp [List.filter, hk], List.append_nil]
 ·rw [if_pos rfl, show [l[j]].filter (·.kind == 2) = [l[j]] from by simp [List.filter, hk], List.map_append]
  rfl
theorem H7 (l : List (Bytes × TA)) : dF 5 (gJ l) := fun x hx => by
 obtain ⟨⟨nm, ⟨k, tn, ns, tl⟩⟩, _, rfl⟩ := List.mem_map.1 hx
 exact ⟨rfl, rfl⟩
theorem vU (l : List (Bytes × TA)) : (gJ l).length = l.length := by simp [gJ]
theorem LB (l : List (Bytes × TA)) (p : Bytes × TA) : gJ (l ++ [p]) = gJ l ++ [wF p] := by simp [gJ]
def jh (l : List (Bytes × TA)) : Nat := (l.map fun p => szT p.2).sum
theorem LX (F : y8 T) (l : List (Bytes × TA)) (hl : l.length ≤ 2 ^ 30) (hw : ∀ p ∈ l, wtT p.2 ≤ 2 ^ 30) (tk : Tok) (htk : mW 0 tk) : Pure T.L 148 [.lst (gJ l) tk] (.bool (decide (jh l ≤ 60))) := by
 refine Pure.run (dh (.lst _ _ htk (rU 0 l))) (.bool _) (aG F.Va (by simp [Sk]) ?_)
 have hsum : ∀ j, j ≤ l.length → jh (l.take j) ≤ j * 2 ^ 30 := fun j => by
  induction j with
  | zero => intro _; simp [jh]
  | succ j ih =>
   intro h
   have h1 := ih (by omega)
   rw [List.take_succ_eq_append_getElem (by omega)]
   unfold jh at h1 ⊢
   rw [List.map_append, List.sum_append_nat, List.map_singleton, List.sum_singleton]
   have h2 := hw _ (List.getElem_mem (show j < l.length by omega))
   have h3 := wm _ l[j].2 (Nat.le_refl _)
   unfold szT at *
   omega
 conv => whnf
 intro I hI hG
 have key : ∀ (d j : Nat) (e : Env), l.length - j = d → j ≤ l.length → I (gQ e [(0, .lst (gJ l) tk), (3, .int .i64 ((jh (l.take j) : Nat) : Int)), (4, .int .i64 j)]) [] := by
  intro d
  induction d with
  | zero =>
   intro j e hd hj
   have hjl : j = l.length := by omega
   apply hI
   conv => whnf
   rw [show decide (((j : Nat) : Int) < (((gJ l).length : Nat) : Int)) = false from by rw [vU, hjl]; simp]
   conv => whnf
   rw [hjl, List.take_length, show decide (((jh l : Nat) : Int) ≤ 60) = decide (jh l ≤ 60) from by
    by_cases h : jh l ≤ 60
    ·rw [decide_eq_true h, decide_eq_true (by omega)]
    ·rw [decide_eq_false h, decide_eq_false (by omega)]]
   exact aH (Weak.refl _)
  | succ d ihd =>
   intro j e hd hj
   have hjl : j < l.length := by omega
   have hget := JI hjl
   have hnext := fun e => ihd (j + 1) e (by omega) hjl
   have hs1 := hsum j hj
   have hs2 := hsum (j + 1) hjl
   have hst : jh (l.take (j + 1)) = jh (l.take j) + szT l[j].2 := by
    rw [List.take_succ_eq_append_getElem hjl]
    unfold jh
    rw [List.map_append, List.sum_append_nat, List.map_singleton, List.sum_singleton]
   rw [hst] at hnext hs2
   have hwj := hw _ (List.getElem_mem hjl)
   have hc := Ah F.Ll _ l[j].2 (Nat.lt_succ_self _) (by omega)
   have hb : (j + 1) * 2 ^ 30 ≤ 2 ^ 30 * 2 ^ 30 := Nat.mul_le_mul_right _ (by omega)
   generalize l[j] = v at hget hc hnext hs2 hwj
   generalize jh (l.take j) = m at hnext hs2 hs1 ⊢
   apply hI
   obtain ⟨nm, ⟨vk, vn, vs, vl⟩⟩ := v
   conv => whnf
   rw [show decide (((j : Nat) : Int) < (((gJ l).length : Nat) : Int)) = true from by rw [vU]; simp; omega]
   conv => whnf
   refine step_elem (Int.natCast_nonneg _) hget rfl ?_
   conv => whnf
   refine ⟨Nat.le_of_ble_eq_true rfl, ?_⟩
   conv => whnf
   refine hc.to ?_
   conv => whnf
   refine inv_of [(0, .lst (gJ l) tk), (3, .int .i64 ((m + szT (.mk vk vn vs vl) : Nat) : Int)), (4, .int .i64 (j + 1 : Nat))] ⟨rfl, ?_, add1 (by omega), trivial⟩ (hnext _)
   show au.int .i64 (IntKind.i64.wrap (((m : Nat) : Int) + ((szT (.mk vk vn vs vl) : Nat) : Int))) = _
   rw [IntWalk.i64_in _ (by dsimp only at hs2; omega)]
   congr 1
 exact inv_of [(0, .lst (gJ l) tk), (3, .int .i64 0), (4, .int .i64 0)] ⟨rfl, rfl, rfl, trivial⟩ (key l.length 0 _ rfl (Nat.zero_le _))
theorem Vo {l : List dS} {i : Nat} (h : i < l.length) : (l.map dS.av)[((i : Nat) : Int).toNat]? = some l[i].av := by
 simp [List.getElem?_map, List.getElem?_eq_getElem h]
def fZ (src : Bytes) : List (Bytes × TA) := kE (fQ src).1
theorem xW (src : Bytes) (hs : src.length ≤ 600) : ∀ p ∈ fZ src, kD p.1 ∧ GT p.2 ∧ wtT p.2 ≤ 2 ^ 19 := fun p hp => by
 unfold fZ kE at hp
 obtain ⟨d, hd, rfl⟩ := List.mem_map.1 hp
 obtain ⟨h1, h2⟩ := List.mem_filter.1 hd
 obtain ⟨hn, t, ht, hg, hw⟩ := Ci src (by omega) d h1 (by simpa using h2)
 unfold MW
 rw [ht]
 have : (src.length + 82) * (src.length + 1) ≤ 682 * 601 := Nat.mul_le_mul (by omega) (by omega)
 exact ⟨hn, hg, Nat.le_trans hw (by omega)⟩
theorem Ab (src : Bytes) (hs : src.length ≤ 600) : (fZ src).length ≤ 2 ^ 30 := by
 unfold fZ kE
 rw [List.length_map]
 refine Nat.le_trans (List.length_filter_le _ _) ?_
 obtain ⟨hok, hlen, hdl⟩ := mh src (by omega)
 have zK : (bE src).rem ≤ src.length + 1 := by unfold RS.rem; omega
 have hp : (bE src).pot ≤ (bE src).diags.length + 2 * (bE src).toks.length + 1 := by
  unfold RS.pot
  split <;> omega
 have := (nG (nY src) (bE src).rem [] (bE src) ⟨hok.lt, hok.more, hok.len, hok.txt, by omega, hok.named, hok.num⟩ rfl (Nat.le_refl _) (fun d hd => by cases hd)).2
 unfold fQ
 simp at this
 omega
theorem EC : ∀ {l : List (Bytes × TA)} {p : Bytes × TA}, p ∈ iL l → ∃ q ∈ l, p = (q.1, aM q.2) := fun {l p} => by
 have key : ∀ (l B : List (Bytes × TA)), p ∈ l.foldl nZ B → p ∈ B ∨ ∃ q ∈ l, p = (q.1, aM q.2) := fun l => by
  induction l with
  | nil => exact fun B h => .inl h
  | cons q l ih =>
   intro B h
   rcases ih _ h with h | ⟨r, hr, e⟩
   ·unfold nZ at h
    split at h
    ·exact .inl h
    ·rcases List.mem_append.1 h with h | h
     ·exact .inl h
     ·rw [List.mem_singleton] at h; exact .inr ⟨q, by simp, h⟩
   ·exact .inr ⟨r, by simp [hr], e⟩
 intro h
 rcases key l [] h with h | h
 ·cases h
 ·exact h
theorem FB (F : y8 T) (src : Bytes) (hs : src.length ≤ 600) : aC T.L 147 [.str src] [] fun r H' => ∃ e o0 o1, lU (iL (fZ src)) e ∧ bI 0 o0 ∧ bI 0 o1 ∧ r = .ret (.tup [.ptr 4 0, .lst (gJ (fZ src)) .none, .bool (decide ((fZ src).length ≤ 8))]) ∧
  H' = [o0, o1, .map (dD e.by_ 0) e.by_.length, .map (iO e.empty 0) e.empty.length, .cells [.map 2, .map 3] 234] := by
 have hD := xW src hs
 have hDl := Ab src hs
 have hP := LY F.toy7 src (by omega)
 have hP5 := Gd F.toVz src (by omega)
 have hG := Ci src (by omega)
 have hPl : (fQ src).1.length ≤ 2 ^ 33 := (Iw src (by omega)).2
 have hnew := WV F.toBt (fZ src) hDl (fun p hp => Ck (hD p hp).2.1 (by have := (hD p hp).2.2; omega)) (fun p hp => by
  obtain ⟨q, hq, rfl⟩ := EC hp
  have h1 := (hD q hq).2.2
  have h2 := kX q.2
  dsimp only
  omega)
 unfold fZ at *
 generalize (fQ src).2.diags.map bP.av = DG at hP hP5
 generalize (fQ src).1 = l at *
 refine aC.Fg 2 ?_
 refine aC.cut (aC.mono (Q := fun r H' => ∃ e o0 o1 tk J, lU (iL (kE l)) e ∧ bI 0 o0 ∧ bI 0 o1 ∧ r = .ret (.tup [.ptr 4 0, .lst (gJ (kE l)) tk, .bool (decide ((kE l).length ≤ 8))]) ∧
  H' = [o0, o1, .map (dD e.by_ 0) e.by_.length, .map (iO e.empty 0) e.empty.length, .cells [.map 2, .map 3] 234] ++ J) ?_ fun r H' ⟨e, o0, o1, tk, J, e1, h0, h1, e2, e3⟩ => ⟨.ret (.tup [.ptr 4 0, .lst (gJ (kE l)) .none, .bool (decide ((kE l).length ≤ 8))]), [o0, o1, .map (dD e.by_ 0) e.by_.length, .map (iO e.empty 0) e.empty.length, .cells [.map 2, .map 3] 234], J, e3, by rw [e2]; exact Weak.tup ⟨Weak.refl _, Weak.tok _ _, Weak.refl _, trivial⟩, .tup _ (kM.at ⟨.ptr _ _ (show 4 < 5 by decide), .lst _ _ trivial (rU _ _), .bool _, trivial⟩), Nat.le_of_ble_eq_true rfl,
   gK.at ⟨aI (Nat.zero_le _) h0, aI (Nat.zero_le _) h1, gI 5 _ _, iH 5 _ _, eu ⟨.map _ (show 2 < 5 by decide), .map _ (show 3 < 5 by decide), trivial⟩, trivial⟩, e, o0, o1, e1, h0, h1, rfl, rfl⟩)
 refine aG F.QT (by simp [Nn]) ?_
 have h1 : decide ((src.length : Int) > 600) = false := decide_eq_false (by omega)
 conv => whnf
 rw [h1]
 conv => whnf
 refine hP.to ?_
 conv => whnf
 refine hP5.to ?_
 conv => whnf
 intro I hI hGC
 have key : ∀ (d j : Nat) (XS : List au) (e : Env), l.length - j = d → j ≤ l.length → XS = gJ (kE (l.take j)) → XS.length ≤ j →
   I (gQ e [(5, .lst (l.map dS.av) .none), (7, .lst (l.map dS.av) .none), (9, .lst XS (bM XS.length 0)), (10, .lst XS (bM XS.length 1)), (11, .int .i64 j)]) [bq XS.length 182, bq XS.length 244] := by
  intro d
  induction d with
  | zero =>
   intro j XS e hd hj hX hXl
   have hjl : j = l.length := by omega
   rw [hjl, List.take_length] at hX
   have hlen : XS.length = (kE l).length := by rw [hX, vU]
   apply hI
   conv => whnf
   rw [show decide (((j : Nat) : Int) < (((l.map dS.av).length : Nat) : Int)) = false from by rw [List.length_map, hjl]; simp]
   conv => whnf
   rw [hX]
   refine (hnew _ _).mono fun r H' ⟨e, hok, e1, e2⟩ => ?_
   subst e1 e2
   conv => whnf
   rw [show decide ((((gJ (kE l)).length : Nat) : Int) ≤ 8) = decide ((kE l).length ≤ 8) from by
    rw [vU]
    by_cases h : (kE l).length ≤ 8
    ·rw [decide_eq_true h, decide_eq_true (by omega)]
    ·rw [decide_eq_false h, decide_eq_false (by omega)]]
   exact ⟨e, _, _, _, [], hok, bF _ _ _, bF _ _ _, rfl, rfl⟩
  | succ d ihd =>
   intro j XS e hd hj hX hXl
   have hjl : j < l.length := by omega
   have hnext := fun YS e h1 h2 => ihd (j + 1) YS e (by omega) hjl h1 h2
   rw [JH l j hjl] at hnext
   have hget := Vo hjl
   have hg := hG _ (List.getElem_mem hjl)
   generalize l[j] = v at hget hnext hg
   obtain ⟨vk, vp, vn, vts, ves⟩ := v
   apply hI
   conv => whnf
   rw [show decide (((j : Nat) : Int) < (((l.map dS.av).length : Nat) : Int)) = true from by rw [List.length_map]; simp; omega]
   conv => whnf
   refine step_elem (Int.natCast_nonneg _) hget rfl ?_
   conv => whnf
   refine ⟨Nat.zero_le _, ?_⟩
   conv => whnf
   dsimp only at hnext
   cases hk : (vk == 2)
   ·rw [hk, if_neg (by simp)] at hnext
    conv => whnf
    exact inv_of [(5, .lst (l.map dS.av) .none), (7, .lst (l.map dS.av) .none), (9, .lst XS (bM XS.length 0)), (10, .lst XS (bM XS.length 1)), (11, .int .i64 (j + 1 : Nat))] ⟨rfl, rfl, rfl, rfl, add1 (show j + 1 < 9223372036854775808 by omega), trivial⟩ (hnext XS _ hX (by omega))
   ·obtain ⟨hn, t, ht, _, _⟩ := hg (by simpa using hk)
    dsimp only at ht
    subst ht
    rw [hk, if_pos rfl] at hnext
    have hdef : MW ⟨vk, vp, vn, [t], ves⟩ = (vn, t) := rfl
    rw [hdef, LB, ← hX] at hnext
    have sX : dF 5 XS := by rw [hX]; exact H7 _
    obtain ⟨tk, tn, tns, tl⟩ := t
    have app0 : ∀ {H : Heap} {K : au → Heap → Prop} {tk0 : Tok}, H[0]? = some (bq XS.length 182) → K (.lst (XS ++ [wF (vn, .mk tk tn tns tl)]) (bM (XS ++ [wF (vn, .mk tk tn tns tl)]).length 0)) (H.set 0 (bq (XS ++ [wF (vn, .mk tk tn tns tl)]).length 182)) → lX 5 88 182 (.lst XS (bM XS.length 0)) (.lst [wF (vn, .mk tk tn tns tl)] tk0) H K :=
     fun h1 h2 => dO sX (bO rfl) (by simp; omega) (by simp; omega) (by simp) h1 h2
    have app1 : ∀ {H : Heap} {K : au → Heap → Prop} {tk0 : Tok}, H[1]? = some (bq XS.length 244) → K (.lst (XS ++ [wF (vn, .mk tk tn tns tl)]) (bM (XS ++ [wF (vn, .mk tk tn tns tl)]).length 1)) (H.set 1 (bq (XS ++ [wF (vn, .mk tk tn tns tl)]).length 244)) → lX 5 88 244 (.lst XS (bM XS.length 1)) (.lst [wF (vn, .mk tk tn tns tl)] tk0) H K :=
     fun h1 h2 => dO sX (bO rfl) (by simp; omega) (by simp; omega) (by simp) h1 h2
    have hnext := fun e => hnext (XS ++ [wF (vn, .mk tk tn tns tl)]) e rfl (by simp; omega)
    clear hX
    conv => whnf
    refine step_elem (Int.natCast_nonneg _) hget rfl ?_
    conv => whnf
    refine ⟨Nat.le_of_ble_eq_true rfl, ?_⟩
    conv => whnf
    refine step_elem (Int.natCast_nonneg _) hget rfl ?_
    conv => whnf
    refine ⟨Nat.le_of_ble_eq_true rfl, ?_⟩
    conv => whnf
    refine ⟨Int.le_refl 0, ?_⟩
    conv => whnf
    refine ⟨rfl, ?_⟩
    conv => whnf
    refine app0 rfl ?_
    conv => whnf
    refine step_elem (Int.natCast_nonneg _) hget rfl ?_
    conv => whnf
    refine ⟨Nat.le_of_ble_eq_true rfl, ?_⟩
    conv => whnf
    refine step_elem (Int.natCast_nonneg _) hget rfl ?_
    conv => whnf
    refine ⟨Nat.le_of_ble_eq_true rfl, ?_⟩
    conv => whnf
    refine ⟨Int.le_refl 0, ?_⟩
    conv => whnf
    refine ⟨rfl, ?_⟩
    conv => whnf
    refine app1 rfl ?_
    conv => whnf
    exact inv_of [(5, .lst (l.map dS.av) .none), (7, .lst (l.map dS.av) .none), (9, .lst (XS ++ [wF (vn, .mk tk tn tns tl)]) (bM (XS ++ [wF (vn, .mk tk tn tns tl)]).length 0)), (10, .lst (XS ++ [wF (vn, .mk tk tn tns tl)]) (bM (XS ++ [wF (vn, .mk tk tn tns tl)]).length 1)), (11, .int .i64 (j + 1 : Nat))] ⟨rfl, rfl, rfl, rfl, add1 (by omega), trivial⟩ (hnext _)
 exact inv_of [(5, .lst (l.map dS.av) .none), (7, .lst (l.map dS.av) .none), (9, .lst [] .nil), (10, .lst [] .nil), (11, .int .i64 0)] ⟨rfl, rfl, rfl, rfl, rfl, trivial⟩ (key l.length 0 [] _ rfl (Nat.zero_le _) rfl (Nat.zero_le _))
end Go.Ag
/- How many parts a type is spread to, by sizes; environments of small definitions; what a type stands for. -/
namespace Go.Ag
open Go
variable {T : Tab} {L : Lnk} {by_ : List (Bytes × TA)} {e : fV} {C : List TA}
theorem FP (l : List TA) : szL l = (l.map szT).sum := by
 induction l with
 | nil => rfl
 | cons t l ih => rw [gM, List.map_cons, List.sum_cons, ih]
theorem NY (t : TA) : szL (dP t) ≤ szT t := by
 obtain ⟨k, nm, ns, l⟩ := t
 unfold dP
 split
 ·rw [mg]; exact Nat.le_succ _
 ·rw [gM]; exact Nat.le_refl _
theorem Kr (a b : List TA) : szL (a ++ b) = szL a + szL b := by simp [FP]
theorem Td (l : List TA) : szL (aP l) ≤ szL l := by
 induction l with
 | nil => exact Nat.le_refl _
 | cons t l ih =>
  have h1 : aP (t :: l) = dP t ++ aP l := by unfold aP; rw [List.flatMap_cons]
  rw [h1, Kr, gM]
  have := NY t
  omega
theorem NW (l : List TA) : szL (fP l) ≤ szL l := by
 unfold fP
 rw [FP, List.map_map]
 have h1 := z8 (fun p : TA × Bytes => szT p.1) (JK (mo (eO l)))
 have h2 := ((mY (eO l)).map fun p : TA × Bytes => szT p.1).sum_nat
 have h3 : ((eO l).map fun p : TA × Bytes => szT p.1).sum = szL l := by
  unfold eO
  rw [List.map_map, FP]; rfl
 have h4 : ((fJ (mo (eO l))).map (szT ∘ fun x => x.1)).sum = ((fJ (mo (eO l))).map fun p : TA × Bytes => szT p.1).sum := rfl
 omega
theorem NV (l : List TA) : szT (l8 l) ≤ 1 + szL l := by
 rw [mR]
 have hf := Td l
 split
 ·rename_i t h
  have := FQ (List.mem_of_find?_eq_some h)
  omega
 ·have h2 := NW (aP l)
  unfold l9
  split
  ·rename_i t h
   rw [h, gM] at h2
   omega
  ·rw [mg]; omega
theorem Mh : ∀ (n : Nat) (t : TA), wtT t ≤ n → szT (aM t) ≤ szT t
 | 0, t, h => by have := BD t; omega
 | n + 1, t, h => by
  obtain ⟨k, nm, ns, l⟩ := t
  have hl : ∀ m : List TA, (∀ t ∈ m, wtT t ≤ n) → szL (dx m) ≤ szL m := fun m => by
   induction m with
   | nil => intro _; exact Nat.le_refl _
   | cons t m ih =>
    intro hm
    rw [dx, gM, gM]
    have h1 := Mh n t (hm t (by simp))
    have h2 := ih fun x hx => hm x (by simp [hx])
    omega
  have h2 := hl l fun t ht => by
   have h3 := gP ht
   rw [wtT] at h
   omega
  rw [aM, mg]
  split
  ·have := NV (dx l)
   omega
  ·rw [mg]; omega
theorem Hr (t : TA) : szT (aM t) ≤ szT t := Mh _ t (Nat.le_refl _)
def jK (f : Bytes → Nat) : List Bytes → Nat
 | [] => 1
 | a :: l => f a * jK f l
theorem KM {f : Bytes → Nat} {l m : List Bytes} (h : l.Perm m) : jK f l = jK f m := by
 induction h with
 | nil => rfl
 | cons a h ih => rw [jK, jK, ih]
 | swap a b l => rw [jK, jK, jK, jK, ← Nat.mul_assoc, ← Nat.mul_assoc, Nat.mul_comm (f b)]
 | trans _ _ h1 h2 => exact h1.trans h2
theorem Eo {f : Bytes → Nat} (hf : ∀ a, 1 ≤ f a) : ∀ l, 1 ≤ jK f l
 | [] => Nat.le_refl _
 | a :: l => Nat.mul_pos (hf a) (Eo hf l)
theorem Ed (hE : lU by_ e) (hnd : (by_.map (·.1)).Nodup) : ∀ n,
  (∀ (P Q : List Bytes) (t : TA) (ys : List TA), (by_.map (·.1)).Perm (P ++ Q) → (∀ p ∈ P, ∀ r ∈ iW t, qR by_ (dJ by_ p) r) → bJ e n t = some ys → ys.length ≤ szT t * jK (fun p => szT (dJ by_ p)) Q) ∧
  (∀ (P Q : List Bytes) (l : List TA) (ys : List TA), (by_.map (·.1)).Perm (P ++ Q) → (∀ p ∈ P, ∀ r ∈ vo l, qR by_ (dJ by_ p) r) → bR e n l = some ys → ys.length ≤ szL l * jK (fun p => szT (dJ by_ p)) Q)
 | 0 => ⟨fun P Q t ys _ _ h => (by rw [bJ] at h; cases h), fun P Q l ys _ _ h => (by rw [bR] at h; cases h)⟩
 | n + 1 => by
  obtain ⟨h1, h2⟩ := Ed hE hnd n
  have hpos : ∀ Q, 1 ≤ jK (fun p => szT (dJ by_ p)) Q := Eo fun a => FN _
  have hone : ∀ (t : TA) Q, 1 ≤ szT t * jK (fun p => szT (dJ by_ p)) Q := fun t Q => Nat.mul_pos (FN t) (hpos Q)
  refine ⟨fun P Q t ys hperm hlead h => ?_, fun P Q l ys hperm hlead h => ?_⟩
  ·obtain ⟨k, nm, ns, l⟩ := t
   have h0 := hone (.mk k nm ns l) Q
   rw [iW] at hlead
   rw [bJ] at h
   split at h
   ·rename_i h8
    rw [if_pos h8] at hlead
    split at h
    ·cases h; simp only [List.length_singleton]; exact h0
    ·rename_i he
     have hne : ¬ qY by_ nm := fun h => he ((lT hE hnd nm).2 h)
     have hdef : (by_.find? (·.1 == nm)).isSome = true := by
      cases hd : (by_.find? (·.1 == nm)).isSome
      ·exact absurd (.inl hd) hne
      ·rfl
     have hkey := Jw hdef
     have hnP : nm ∉ P := fun hm => hne (.inr (hlead nm hm nm (by simp)))
     have hQ : nm ∈ Q := by
      rcases List.mem_append.1 (hperm.mem_iff.1 hkey) with h | h
      ·exact absurd h hnP
      ·exact h
     rw [yQ, hE.hby] at h
     have hp2 : (by_.map (·.1)).Perm ((nm :: P) ++ Q.erase nm) := hperm.trans ((List.Perm.append_left P (List.perm_cons_erase hQ)).trans List.perm_middle)
     have := h1 (nm :: P) (Q.erase nm) (dJ by_ nm) ys hp2 (fun p hp r hr => by
      rcases List.mem_cons.1 hp with rfl | hp
      ·exact .here _ _ hr
      ·exact (hlead p hp nm (by simp)).trans (.here _ _ hr)) h
     rw [KM (List.perm_cons_erase hQ), jK]
     refine Nat.le_trans this ?_
     exact Nat.le_mul_of_pos_left _ (FN _)
   ·rename_i h8
    rw [if_neg h8] at hlead
    split at h
    ·rename_i h7
     rw [if_pos h7] at hlead
     have := h2 P Q l ys hperm hlead h
     refine Nat.le_trans this (Nat.mul_le_mul_right _ ?_)
     rw [mg]; exact Nat.le_succ _
    ·cases h; simp only [List.length_singleton]; exact h0
  ·cases l with
   | nil => rw [bR] at h; cases h; simp
   | cons t l =>
    rw [bR] at h
    cases hx : bJ e n t with
    | none => rw [hx] at h; cases h
    | some xs =>
     cases hr : bR e n l with
     | none => rw [hx, hr] at h; cases h
     | some zs =>
      rw [hx, hr] at h
      cases h
      have k1 := h1 P Q t xs hperm (fun p hp r hr => hlead p hp r (by rw [vo]; exact List.mem_append_left _ hr)) hx
      have k2 := h2 P Q l zs hperm (fun p hp r hr => hlead p hp r (by rw [vo]; exact List.mem_append_right _ hr)) hr
      rw [gM, List.length_append, Nat.add_mul]
      exact Nat.add_le_add k1 k2
theorem x_le : ∀ x : Nat, 4 * x * 7 ^ x ≤ 11 * 8 ^ x := fun x => by
 by_cases h : x < 8
 ·have : ∀ x, x < 8 → 4 * x * 7 ^ x ≤ 11 * 8 ^ x := by decide
  exact this x h
 ·obtain ⟨k, rfl⟩ : ∃ k, x = 8 + k := ⟨x - 8, by omega⟩
  clear h
  induction k with
  | zero => decide
  | succ k ih =>
   rw [← Nat.add_assoc, Nat.pow_succ, Nat.pow_succ]
   generalize 7 ^ (8 + k) = a at ih ⊢
   generalize 8 ^ (8 + k) = b at ih ⊢
   have h1 : 4 * (8 + k + 1) * (a * 7) = 4 * (7 * (8 + k + 1)) * a := by
    rw [Nat.mul_comm a 7, ← Nat.mul_assoc, Nat.mul_assoc 4, Nat.mul_comm (8 + k + 1) 7]
   have h2 : 4 * (7 * (8 + k + 1)) * a ≤ 4 * (8 * (8 + k)) * a := Nat.mul_le_mul_right _ (by omega)
   have h3 : 4 * (8 * (8 + k)) * a = 8 * (4 * (8 + k) * a) := by
    rw [← Nat.mul_assoc 4, Nat.mul_comm 4 8, Nat.mul_assoc 8, Nat.mul_assoc 8]
   omega
theorem Mt (f : Bytes → Nat) : ∀ l : List Bytes, 4 ^ l.length * 7 ^ (l.map f).sum * jK f l ≤ 11 ^ l.length * 8 ^ (l.map f).sum
 | [] => by simp [jK]
 | a :: l => by
  have h1 := x_le (f a)
  have h2 := Mt f l
  rw [List.length_cons, List.map_cons, List.sum_cons, jK, Nat.pow_succ, Nat.pow_succ, Nat.pow_add, Nat.pow_add]
  have := Nat.mul_le_mul h1 h2
  generalize 4 ^ l.length = a1 at *
  generalize 7 ^ (l.map f).sum = a2 at *
  generalize 11 ^ l.length = a3 at *
  generalize 8 ^ (l.map f).sum = a4 at *
  generalize jK f l = a5 at *
  generalize 7 ^ f a = a6 at *
  generalize 8 ^ f a = a7 at *
  generalize f a = x at *
  calc a1 * 4 * (a6 * a2) * (x * a5) = 4 * x * a6 * (a1 * a2 * a5) := by simp only [Nat.mul_assoc, Nat.mul_comm, Nat.mul_left_comm]
   _ ≤ 11 * a7 * (a3 * a4) := this
   _ = a3 * 11 * (a7 * a4) := by simp only [Nat.mul_assoc, Nat.mul_comm, Nat.mul_left_comm]
theorem TJ (f : Bytes → Nat) (l : List Bytes) (hl : l.length ≤ 8) (hs : (l.map f).sum ≤ 60) : jK f l ≤ 10000000 := by
 have h := Mt f l
 obtain ⟨a, ha⟩ : ∃ a, l.length + a = 8 := ⟨8 - l.length, by omega⟩
 obtain ⟨b, hb⟩ : ∃ b, (l.map f).sum + b = 60 := ⟨60 - (l.map f).sum, by omega⟩
 have h4 : 4 ^ a ≤ 11 ^ a := Nat.pow_le_pow_left (by decide) a
 have h7 : 7 ^ b ≤ 8 ^ b := Nat.pow_le_pow_left (by decide) b
 have h2 := Nat.mul_le_mul (Nat.mul_le_mul h4 h7) h
 have e1 : 4 ^ a * 7 ^ b * (4 ^ l.length * 7 ^ (l.map f).sum * jK f l) = 4 ^ 8 * 7 ^ 60 * jK f l := by
  rw [← ha, ← hb, Nat.pow_add, Nat.pow_add]
  simp only [Nat.mul_assoc, Nat.mul_comm, Nat.mul_left_comm]
 have e2 : 11 ^ a * 8 ^ b * (11 ^ l.length * 8 ^ (l.map f).sum) = 11 ^ 8 * 8 ^ 60 := by
  rw [← ha, ← hb, Nat.pow_add, Nat.pow_add]
  simp only [Nat.mul_assoc, Nat.mul_comm, Nat.mul_left_comm]
 rw [e1, e2] at h2
 rcases Nat.lt_or_ge 10000000 (jK f l) with h3 | h3
 ·have h5 : 4 ^ 8 * 7 ^ 60 * 10000000 ≤ 4 ^ 8 * 7 ^ 60 * jK f l := Nat.mul_le_mul_left _ (Nat.le_of_lt h3)
  have h6 : ¬ (4 ^ 8 * 7 ^ 60 * 10000000 ≤ 11 ^ 8 * 8 ^ 60) := by decide
  exact absurd (Nat.le_trans h5 h2) h6
 ·exact h3
end Go.Ag
/- Environments of small definitions; what a type stands for, and its text. -/
namespace Go.Ag
open Go
variable {T : Tab} {L : Lnk} {by_ : List (Bytes × TA)} {e : fV} {C : List TA}
theorem Hw : ∀ (n : Nat) (t : TA), wtT t ≤ n → iJ t = allT t
 | 0, t, h => by have := BD t; omega
 | n + 1, t, h => by
  obtain ⟨k, nm, ns, l⟩ := t
  rw [wtT] at h
  have : ∀ m : List TA, (∀ t ∈ m, wtT t ≤ n) → uz m = sj m := fun m => by
   induction m with
   | nil => intro _; rfl
   | cons t m ih => intro hm; rw [uz, sj, Hw n t (hm t (by simp)), ih fun x hx => hm x (by simp [hx])]
  rw [iJ, allT, this l fun t ht => by have := gP ht; omega]
theorem Hu (t : TA) : (iJ t).length = szT t := by rw [Hw _ t (Nat.le_refl _)]; rfl
theorem Mi : ∀ (n : Nat) (t : TA), wtT t ≤ n → ∀ x ∈ iJ t, szT x ≤ szT t
 | 0, t, h => by have := BD t; omega
 | n + 1, t, h => by
  obtain ⟨k, nm, ns, l⟩ := t
  intro x hx
  rw [iJ] at hx
  rcases List.mem_cons.1 hx with rfl | hx
  ·exact Nat.le_refl _
  ·obtain ⟨u, hu, hx⟩ := rC.1 hx
   rw [wtT] at h
   have h1 := Mi n u (by have := gP hu; omega) x hx
   have h2 := FQ hu
   rw [mg]
   omega
theorem Ra (hE : lU by_ e) (hnd : (by_.map (·.1)).Nodup) (bs : List TA) (hb : ∀ p ∈ by_, p.2 ∈ bs) (hn : ∀ t ∈ bs, NT t) (hw : ∀ t ∈ bs, wtT t ≤ 2 ^ 30) (hz : ∀ t ∈ bs, szT t ≤ 100) (hl : bs.length ≤ 2 ^ 10)
  (hbl : by_.length ≤ 8) (hbs : (by_.map fun p => szT p.2).sum ≤ 60) : lY by_ e (bs.flatMap iJ) where
 ok := hE
 nodup := hnd
 mem := fun p hp => List.mem_flatMap.2 ⟨p.2, hb p hp, rA _⟩
 nt := fun t ht => by
  obtain ⟨b, hb, ht⟩ := List.mem_flatMap.1 ht
  exact Mj _ b (Nat.le_refl _) (hn b hb) t ht
 cl := fun t ht x hx => by
  obtain ⟨b, hb, ht⟩ := List.mem_flatMap.1 ht
  exact List.mem_flatMap.2 ⟨b, hb, ((xV _ b (Nat.le_refl _)).1 t ht).2 x hx⟩
 wt := fun t ht => by
  obtain ⟨b, hb, ht⟩ := List.mem_flatMap.1 ht
  exact Nat.le_trans ((xV _ b (Nat.le_refl _)).1 t ht).1 (hw b hb)
 fin := by
  have : ∀ (l : List TA), (∀ t ∈ l, szT t ≤ 100) → (l.flatMap iJ).length ≤ l.length * 100 := by
   intro l
   induction l with
   | nil => intro _; simp
   | cons t l ih =>
    intro h
    rw [List.flatMap_cons, List.length_append, List.length_cons, Nat.add_mul, Hu]
    have h2 := h t (by simp)
    have h3 := ih fun x hx => h x (by simp [hx])
    omega
  have h1 := this bs hz
  omega
 VU := fun t ht => by
  obtain ⟨b, hb', ht⟩ := List.mem_flatMap.1 ht
  have h1 := Mi _ b (Nat.le_refl _) t ht
  have h2 := hz b hb'
  obtain ⟨n, hs⟩ := zf hE hnd t
  have h3 := (Ed hE hnd n).1 [] (by_.map (·.1)) t _ (List.Perm.refl _) (fun p hp => by cases hp) hs
  have h4 : ((by_.map (·.1)).map fun p => szT (dJ by_ p)).sum ≤ 60 := by
   rw [List.map_map, show by_.map ((fun p => szT (dJ by_ p)) ∘ (·.1)) = by_.map fun p => szT p.2 from List.map_congr_left fun p hp => by
    show szT (dJ by_ p.1) = _
    rw [zG hnd hp]]
   exact hbs
  have h5 := TJ (fun p => szT (dJ by_ p)) (by_.map (·.1)) (by rw [List.length_map]; exact hbl) h4
  have h6 := Nat.mul_le_mul (Nat.le_trans h1 h2) h5
  omega
noncomputable def wT (e : fV) (t : TA) : TA := kP (wY e (aM t))
theorem Kv : ∀ {l m : List TA}, l.Pairwise (fun a b => prT a 0 < prT b 0) → m.Pairwise (fun a b => prT a 0 < prT b 0) → (∀ x, x ∈ l ↔ x ∈ m) → l = m := fun {l m} hl hm h => by
 have nd : ∀ {l : List TA}, l.Pairwise (fun a b => prT a 0 < prT b 0) → l.Nodup := fun h => h.imp fun h e => by rw [e] at h; exact List.lt_irrefl _ h
 have hp : l.Perm m := (List.perm_ext_iff_of_nodup (nd hl) (nd hm)).2 h
 refine List.Perm.eq_of_pairwise (le := fun a b => prT a 0 < prT b 0) (fun a b _ _ h1 h2 => absurd (List.lt_trans h1 h2) (List.lt_irrefl _)) hl hm hp
theorem KU {l m : List TA} (hl : ∀ t ∈ l, NT t) (hm : ∀ t ∈ m, NT t) (h : ∀ x, x ∈ l ↔ x ∈ m) : fP l = fP m :=
 Kv (jE l) (jE m) fun x => by rw [sU hl, sU hm, h]
open Classical in
theorem Jy {l : List TA} (h : ∀ t ∈ l, NT t ∧ t.kind ≠ 7) : l.find? (fun t => t.kind == 4) = if dQ ∈ l then some dQ else none := by
 cases hd : l.find? (fun t => t.kind == 4) with
 | some t =>
  have h4 : t.kind = 4 := by simpa using List.find?_some (p := fun t : TA => t.kind == 4) hd
  have hm := List.mem_of_find?_eq_some hd
  have := (h t hm).1.Dg h4
  subst this
  rw [if_pos hm]
 | none =>
  rw [if_neg fun hm => List.find?_eq_none.1 hd dQ hm rfl]
open Classical in
theorem join_eq {l : List TA} (h : ∀ t ∈ l, NT t ∧ t.kind ≠ 7) (h0 : l ≠ []) : kP l = if dQ ∈ l then dQ else l9 (fP l) := by
 rw [CK h h0, Jy h]
 by_cases hd : dQ ∈ l
 ·rw [if_pos hd, if_pos hd]
 ·rw [if_neg hd, if_neg hd]
open Classical in
theorem CO {l m : List TA} (hl : ∀ t ∈ l, NT t ∧ t.kind ≠ 7) (hm : ∀ t ∈ m, NT t ∧ t.kind ≠ 7) (l0 : l ≠ []) (m0 : m ≠ []) (hd : dQ ∈ l ↔ dQ ∈ m) (h : dQ ∉ l → ∀ x, x ∈ l ↔ x ∈ m) : kP l = kP m := by
 rw [join_eq hl l0, join_eq hm m0]
 by_cases hx : dQ ∈ l
 ·rw [if_pos hx, if_pos (hd.1 hx)]
 ·rw [if_neg hx, if_neg fun h => hx (hd.2 h), KU (fun t ht => (hl t ht).1) (fun t ht => (hm t ht).1) (h hx)]
open Classical in
theorem MI {l : List TA} (h : ∀ t ∈ l, NT t ∧ t.kind ≠ 7) (h0 : l ≠ []) : NT (kP l) := by
 rw [join_eq h h0]
 split
 ·exact .dyn
 ·rename_i hd
  refine D5 (rJ h0) (fun t ht => ?_) (jE l)
  have hm := kr ht
  exact ⟨(h t hm).1, (h t hm).2, fun h4 => hd (by rw [← (h t hm).1.Dg h4]; exact hm)⟩
theorem lY.wh (W : lY by_ e C) {t : TA} (ht : aM t ∈ C) : (∀ y ∈ wY e (aM t), NT y ∧ y.kind ≠ 7) ∧ wY e (aM t) ≠ [] := by
 obtain ⟨n, h1, h2, h3⟩ := W.some _ ht
 exact ⟨fun y hy => ⟨(h3 y hy).1, (h3 y hy).2.1⟩, h2⟩
theorem lY.PD {T : Tab} (W : lY by_ e C) (F : tY T) {t : TA} (ht : GC' C t) : EK T.L 188 [t.av] e (wT e t).av := by
 obtain ⟨n, h1, h2, h3⟩ := W.some _ ht.2.2
 have hE : ∀ p ∈ e.by_, wtT p.2 ≤ 2 ^ 40 := fun p hp => by
  rw [W.ok.hby] at hp
  have := W.wt _ (W.mem p hp)
  omega
 have hw : ∀ y ∈ wY e (aM t), wtT y ≤ 2 ^ 30 := fun y hy => by
  rcases W.spr ((kY W.ok W.nodup _ _).1 hy) ht.2.2 with rfl | h'
  ·decide
  ·exact W.wt y h'
 have hl := W.VU _ ht.2.2
 have hok := Cj (fun y hy => (h3 y hy).1) hl hw (by rw [uX fun y hy => (h3 y hy).2.1]; exact hl)
 exact BG F e hE n t _ h1 hl (Ck ht.1 ht.2.1) (by have := kX t; have := ht.2.1; omega) hok
theorem lY.Je {T : Tab} (W : lY by_ e C) (F : tY T) {t : TA} (ht : GC' C t) : EK T.L 149 [t.av] e (.lst (TA.avs (hdE e t)) .none) := by
 obtain ⟨n, h1, h2, h3⟩ := W.some _ ht.2.2
 have hE : ∀ p ∈ e.by_, wtT p.2 ≤ 2 ^ 40 := fun p hp => by
  rw [W.ok.hby] at hp
  have := W.wt _ (W.mem p hp)
  omega
 have hw : ∀ y ∈ wY e (aM t), wtT y ≤ 2 ^ 30 := fun y hy => by
  rcases W.spr ((kY W.ok W.nodup _ _).1 hy) ht.2.2 with rfl | h'
  ·decide
  ·exact W.wt y h'
 have hl := W.VU _ ht.2.2
 have hok := Cj (fun y hy => (h3 y hy).1) hl hw (by rw [uX fun y hy => (h3 y hy).2.1]; exact hl)
 have := Lg F e hE n t _ h1 hl (Ck ht.1 ht.2.1) (by have := kX t; have := ht.2.1; omega) hok
 rw [Lh (fun y hy => ⟨(h3 y hy).1, (h3 y hy).2.1⟩) h2] at this
 exact this
structure WX (by_ : List (Bytes × TA)) (e : fV) (C : List TA) : Prop extends lY by_ e C where
 few : C.length ≤ 1600
 wee : ∀ t ∈ C, wtT t ≤ 2 ^ 19
theorem VP {l : List TA} {m : Nat} (h : ∀ t ∈ l, wtT t ≤ m) : wtL l ≤ l.length * (m + 8) := by
 induction l with
 | nil => simp [wtL]
 | cons t l ih =>
  rw [wtL, List.length_cons, Nat.add_mul]
  have h1 := h t (by simp)
  have h2 := ih fun x hx => h x (by simp [hx])
  omega
noncomputable def xZ (e : fV) (t : TA) : Bytes := prT (wT e t) 0
theorem WX.Md {T : Tab} (F : xL T) {u : TA} (hn : NT u) (hw : wtT u ≤ 2 ^ 30) : Pure T.L 150 [u.av] (.str (prT u 0)) := by
 have := Pw F u (Ck hn.gt hw) (by rw [pU hn]; omega) (by rw [pU hn]; exact hn.wf)
 rw [pU hn] at this
 exact this
end Go.Ag
/- Package cupellaw08: alive. -/
namespace Go.Ag
open Go
variable {T : Tab} {L : Lnk}
structure Nw (T : Tab) : Prop extends y8 T where
 Vg : T.has 141 Sr
def qg : Bytes := [116, 121, 112, 101, 32, 116, 32, 61, 32, 105, 110, 116, 32, 124, 32, 116, 59, 32, 116, 121, 112, 101, 32, 117, 32, 61, 32, 123, 97, 58, 32, 117, 125, 59]
def aT : TA := .mk 7 [] [] [.mk 1 [] [] [], .mk 8 [116] [] []]
def aU : TA := .mk 5 [] [[97]] [.mk 8 [117] [] []]
theorem Dx : fZ qg = [([116], aT), ([117], aU)] := by kernel_rfl
theorem g_t : kD [116] := ⟨by decide, by decide, by decide, by decide, by decide⟩
theorem aT_nt : NT aT := .uni _ (by decide) (fun t ht => by
  simp only [List.mem_cons, List.not_mem_nil, or_false] at ht
  rcases ht with rfl | rfl
  ·exact .int
  ·exact .ref _ g_t) (fun t ht => by
  simp only [List.mem_cons, List.not_mem_nil, or_false] at ht
  rcases ht with rfl | rfl <;> exact ⟨by decide, by decide⟩) (by
  rw [List.pairwise_cons]
  refine ⟨fun t ht => ?_, List.pairwise_singleton _ _⟩
  rw [List.mem_singleton] at ht; subst ht
  rw [sQ, sP]; decide)
theorem SF : iL [([116], aT), ([117], aU)] = [([116], aT), ([117], aM aU)] := by
 have h : iL [([116], aT), ([117], aU)] = [([116], aM aT), ([117], aM aU)] := rfl
 rw [h, pU aT_nt]
theorem Vy {e : fV} (hok : lU (iL (fZ qg)) e) : oz e [116] = true ∧ oz e [117] = false ∧ oz e [118] = true := by
 have hnd := uN (fZ qg)
 have he := fun nm => lT hok hnd nm
 rw [Dx, SF] at he
 have hb : iW (aM aU) = [] := by unfold aU; rw [aM, if_neg (by decide), iW, if_neg (by decide), if_neg (by decide)]
 refine ⟨(he _).2 (.inr (.here _ _ (by decide))), ?_, (he _).2 (.inl rfl)⟩
 cases h : oz e [117]
 ·rfl
 ·rcases (he _).1 h with h | h
  ·cases h
  ·have hx : dJ [([116], aT), ([117], aM aU)] [117] = aM aU := rfl
   rw [hx] at h
   cases h with
   | here _ _ h => rw [hb] at h; cases h
   | step _ _ _ h => rw [hb] at h; cases h
theorem AQ (F : Nw T) : Pure T.L 141 [] (.bool true) := by
 refine Pure.run gN (.bool _) (aG F.Vg (by simp [Sr]) ?_)
 have hM := FB F.toy8 qg (by decide)
 have hl : decide ((fZ qg).length ≤ 8) = true := by rw [Dx]; rfl
 rw [hl] at hM
 have hA : ∀ e, lU (iL (fZ qg)) e → _ := fun e h => Vy h
 generalize fZ qg = D at hM hA
 conv => whnf
 refine hM.mono fun r H' ⟨e, o0, o1, hok, l0, l1, e1, e2⟩ => ?_
 subst e1 e2
 obtain ⟨a1, a2, a3⟩ := hA e hok
 have r1 := tO F.totY e [116]
 rw [a1] at r1
 have r2 := tO F.totY e [117]
 rw [a2] at r2
 have r3 := tO F.totY e [118]
 rw [a3] at r3
 have hE : Nz e [o0, o1, .map (dD e.by_ 0) e.by_.length, .map (iO e.empty 0) e.empty.length, .cells [.map 2, .map 3] 234] 2 := ⟨rfl, rfl, rfl⟩
 conv => whnf
 refine r1.any (dh (.str _)) (.bool _) hE ?_
 conv => whnf
 refine r2.any (dh (.str _)) (.bool _) hE ?_
 conv => whnf
 refine r3.any (dh (.str _)) (.bool _) hE ?_
 conv => whnf
 exact aH (Weak.refl _)
end Go.Ag
/- Bodies in pieces: a run is told part by part. -/
namespace Go.Ag
open Go
variable {T : Tab} {L : Lnk}
def MO : Nat → AC → AC
 | 0, _ => .skip
 | n + 1, .seq a b => .seq a (MO n b)
 | _ + 1, c => c
def PV : Nat → AC → AC
 | 0, b => b
 | n + 1, .seq a b => PV n b
 | _ + 1, _ => .skip
theorem vE {P : Env → Heap → Prop} {Q : qQ} : ∀ (n : Nat) (c : AC) (e : Env) (H : Heap), fu L (MO n c) e H (uI P Q) → (∀ e' H', P e' H' → fu L (PV n c) e' H' Q) → fu L c e H Q
 | 0, c, e, H, h, ht => ht _ _ h
 | n + 1, c, e, H, h, ht => by
  have other : (∀ a b, c ≠ .seq a b) → fu L c e H Q := fun hne => by
   have e1 : MO (n + 1) c = c := by cases c <;> first | rfl | exact absurd rfl (hne _ _)
   have e2 : PV (n + 1) c = .skip := by cases c <;> first | rfl | exact absurd rfl (hne _ _)
   rw [e1] at h
   refine mP (fun x e' H' hx => ?_) h
   cases x with
   | normal =>
    have := ht e' H' hx
    rw [e2] at this
    exact this
   | _ => exact hx
  cases c with
  | seq a b =>
   have h : fu L a e H (uI (fun e' H' => fu L (MO n b) e' H' (uI P Q)) (uI P Q)) := h
   show fu L a e H (uI (fun e' H' => fu L b e' H' Q) Q)
   refine mP (fun x e' H' hx => ?_) h
   cases x with
   | normal => exact vE n b e' H' hx ht
   | _ => exact hx
  | _ => exact other (fun a b => by simp)
end Go.Ag
/- Library functions whose contracts are told of the machine: made abstract contracts. -/
namespace Go.Ag
open Go
open Go.RowKit (Below)
variable {L : Lnk}
theorem below_drewN (w : World) (n : Nat) : Below w.heap.size w (w.drewN n) := ⟨rfl, rfl, rfl, Nat.le_refl _, fun _ _ => rfl⟩
theorem u6 {f : Nat} {args : List au} {H : Heap} {x : au}
  (hc : ∀ g w vs, St L g w H → aX L g vs args → ∃ v, Rep L g v x ∧ Calls L.P (L.num f) vs.toArray w fun e w' => e = .returned v ∧ Below w.heap.size w w') :
  aC L f args H fun r H' => r = .ret x ∧ H' = H := fun g w vs hs hr => by
 obtain ⟨v, h1, h2⟩ := hc g w vs hs hr
 exact h2.mono fun e w' ⟨h3, h4⟩ => ⟨.ret x, H, g, ⟨rfl, rfl⟩, aA.le.refl g, hs.wider h4, v, h3, h1⟩
theorem O0 {f : Nat} {args : List au} {H : Heap} {x : au}
  (hc : ∀ g w vs, St L g w H → aX L g vs args → Calls L.P (L.num f) vs.toArray w fun e w' => (∃ v, e = .returned v ∧ Rep L g v x) ∧ Below w.heap.size w w') :
  aC L f args H fun r H' => r = .ret x ∧ H' = H := fun g w vs hs hr => by
 exact (hc g w vs hs hr).mono fun e w' ⟨⟨v, h3, h1⟩, h4⟩ => ⟨.ret x, H, g, ⟨rfl, rfl⟩, aA.le.refl g, hs.wider h4, v, h3, h1⟩
theorem Ik {g : aA} {vs : List Value} {a : au} (h : aX L g vs [a]) : ∃ v, vs = [v] ∧ Rep L g v a := by
 cases h with | cons v _ _ _ h hs => cases hs; exact ⟨v, rfl, h⟩
theorem Ij {g : aA} {vs : List Value} {a b : au} (h : aX L g vs [a, b]) : ∃ v u, vs = [v, u] ∧ Rep L g v a ∧ Rep L g u b := by
 cases h with | cons v _ _ _ h hs => obtain ⟨u, rfl, h2⟩ := Ik hs; exact ⟨v, u, rfl, h, h2⟩
end Go.Ag
/- The library's contracts of the laws: from the machine's to abstract ones. -/
namespace Go.Ag
open Go
open Go.RowKit (Below)
variable {L : Lnk}
theorem VG (c : UInt8) : ∀ (a b : Bytes), c ∉ a → Lib.index (a ++ c :: b) [c] = a.length
 | [], b, _ => by simp [Lib.index]
 | x :: a, b, h => by
  simp only [List.mem_cons, not_or] at h
  have ih := VG c a b h.2
  simp only [List.cons_append, Lib.index]
  rw [if_neg (by simp [h.1]), ih, if_neg (by simp <;> omega)]
  simp
theorem VF (c : UInt8) : ∀ (a : Bytes), c ∉ a → Lib.index a [c] = -1
 | [], _ => rfl
 | x :: a, h => by
  simp only [List.mem_cons, not_or] at h
  simp only [Lib.index]
  rw [if_neg (by simp [h.1]), VF c a h.2]
  rfl
theorem Dj (c : UInt8) : ∀ s : Bytes, (∃ a b, s = a ++ c :: b ∧ c ∉ a ∧ Dk c s = (a, b, true)) ∨ (c ∉ s ∧ Dk c s = (s, [], false))
 | [] => .inr ⟨by simp, rfl⟩
 | x :: s => by
  by_cases h : x = c
  ·subst h
   exact .inl ⟨[], s, rfl, by simp, by simp [Dk]⟩
  ·rcases Dj c s with ⟨a, b, rfl, h1, h2⟩ | ⟨h1, h2⟩
   ·refine .inl ⟨x :: a, b, rfl, by simp [Ne.symm h, h1], ?_⟩
    simp only [Dk, Prod.mk.injEq] at h2 ⊢
    obtain ⟨e1, e2, e3⟩ := h2
    refine ⟨?_, ?_, by simp⟩
    ·rw [List.takeWhile_cons, if_pos (by simpa using h), e1]
    ·rw [List.dropWhile_cons, if_pos (by simpa using h), e2]
   ·refine .inr ⟨by simp [Ne.symm h, h1], ?_⟩
    simp only [Dk, Prod.mk.injEq] at h2 ⊢
    obtain ⟨e1, e2, e3⟩ := h2
    refine ⟨?_, ?_, ?_⟩
    ·rw [List.takeWhile_cons, if_pos (by simpa using h), e1]
    ·rw [List.dropWhile_cons, if_pos (by simpa using h), e2]
    ·rw [List.any_cons, e3]; simpa using h
theorem Vq (c : UInt8) (s : Bytes) : Lib.cut s [c] = Dk c s := by
 unfold Lib.cut
 rcases Dj c s with ⟨a, b, rfl, h, e⟩ | ⟨h, e⟩
 ·rw [VG c a b h, e, if_pos (by omega)]
  simp
 ·rw [VF c s h, e]
  rfl
theorem CJ (sep : Bytes) : ∀ ws : List Bytes, Lib.join ws sep = iM sep ws
 | [] => rfl
 | [w] => Lib.join_one w sep
 | w :: u :: r => by
  have ih := CJ sep (u :: r)
  rw [Lib.join_cons] at ih ⊢
  simp only [iM]
  rw [← ih]
  simp [Lib.joinTail]
theorem BK (s : Bytes) : (⟨s.toArray⟩ : ByteArray).data.toList = s := by simp
theorem sizeB (s : Bytes) : (⟨s.toArray⟩ : ByteArray).size = s.length := by show s.toArray.size = _; simp
theorem Ei {g : aA} {vs : List Value} : ∀ {l : List Bytes}, aX L g vs (aS l) → vs = l.map fun s => .string ⟨s.toArray⟩ := fun {l} h => by
 induction l generalizing vs with
 | nil => cases h; rfl
 | cons s l ih =>
  simp only [aS, List.map_cons] at h
  cases h with
  | cons v _ vs _ h hs => rw [iK h, ih hs]; rfl
theorem wZ {g : aA} : ∀ l : List Bytes, aX L g (l.map fun s => Value.string ⟨s.toArray⟩) (aS l)
 | [] => .nil
 | s :: l => .cons _ _ _ _ (.str s) (wZ l)
theorem Hy {g : aA} {w : World} {H : Heap} (hs : St L g w H) {v : Value} {l : List Bytes} {tk : Tok} (h : Rep L g v (.lst (aS l) tk)) :
  ∃ a c, v = .slice a l.length c ∧ l.length ≤ c ∧ (l ≠ [] → ∃ b o, a = some ⟨b, o, none⟩ ∧ b < w.heap.size ∧ ∀ (j : Nat) s, l[j]? = some s → w.cell? ⟨b, o + j, none⟩ = some (.string ⟨s.toArray⟩)) := by
 obtain ⟨a, c, k, b, o, vs, rfl, h1, h2, _, h4, _, h6⟩ := lC h
 rw [rY] at h6
 have hv := Ei h6
 have hl : (aS l).length = l.length := by simp [aS]
 rw [hl] at h4 ⊢
 refine ⟨a, c, rfl, h4, fun hne => ⟨b, o, h1 (by intro e; apply hne; simpa [aS] using e), ?_, fun j s hj => ?_⟩⟩
 ·obtain ⟨s, l', rfl⟩ := List.exists_cons_of_ne_nil hne
  have := h2 0 (.string ⟨s.toArray⟩) (by rw [hv]; rfl)
  exact hs.EW this
 ·exact hs.fz b (o + j) _ (h2 j _ (by rw [hv]; simp [hj]))
structure ql (L : Lnk) where
 OW : Nat
 TG : TypeId
 indexByte : ∀ (s : ByteArray) (c : Int) (w : World), Calls L.P (L.num 49) #[.string s, .int .u8 c] w fun e w' => e = .returned (.int .i64 (Lib.indexByte s.data.toList c.toNat.toUInt8)) ∧ w' = w
 cut : ∀ (s sep : ByteArray) (m : Int) (w : World), s.size < 4294967281 → w.cell? ⟨OW, 0, none⟩ = some (.int .i64 m) →
  Calls L.P (L.num 22) #[.string s, .string sep] w fun e w' => e = .returned (.tuple #[.string ⟨(Lib.cut s.data.toList sep.data.toList).1.toArray⟩, .string ⟨(Lib.cut s.data.toList sep.data.toList).2.1.toArray⟩, .bool (Lib.cut s.data.toList sep.data.toList).2.2]) ∧ ∃ n, w' = w.drewN n
 I8 : ∀ (a : Option Addr) (c : Nat) (sep : ByteArray) (w : World), Calls L.P (L.num 20) #[.slice a 0 c, .string sep] w fun e w' => e = .returned (.string ⟨[].toArray⟩) ∧ Below w.heap.size w w'
 join : ∀ (bk o c : Nat) (xs : List ByteArray) (sep : ByteArray) (w : World), (∀ (j : Nat) x, xs[j]? = some x → w.cell? ⟨bk, o + j, none⟩ = some (.string x)) → bk < w.heap.size → xs.length ≤ 140737488355328 → xs.length ≤ c →
  (Lib.join (xs.map (·.data.toList)) sep.data.toList).length ≤ 140737488355328 →
  Calls L.P (L.num 20) #[.slice (some ⟨bk, o, none⟩) xs.length c, .string sep] w fun e w' => e = .returned (.string ⟨(Lib.join (xs.map (·.data.toList)) sep.data.toList).toArray⟩) ∧ Below w.heap.size w w'
 clone : ∀ (b off n c : Nat) (zs : List ByteArray) (w : World), n ≤ zs.length → n * 16 ≤ 140737488355328 → (∀ j, j < zs.length → w.cell? ⟨b, off + j, none⟩ = some (.string (zs.getD j ByteArray.empty))) →
  Calls L.P (L.num 208) #[.slice (some ⟨b, off, none⟩) n c] w fun e w' => ∃ v', e = .returned v' ∧ w'.ownsRow w.heap.size TG 1 v' n ((zs.take n).map (Value.string)) ∧ v' ≠ .slice none 0 0 ∧ Below w.heap.size w w'
 JQ : ∀ (n c : Nat) (w : World), Calls L.P (L.num 208) #[.slice none n c] w fun e w' => e = .returned (.slice none 0 0) ∧ w' = w
 Fp : ∀ (a : Addr) (c : Nat) (w : World), Calls L.P (L.num 208) #[.slice (some a) 0 c] w fun e w' => ∃ v', e = .returned v' ∧ w'.ownsRow w.heap.size TG 1 v' 0 [] ∧ v' ≠ .slice none 0 0 ∧ Below w.heap.size w w'
 st : ∀ w0 base, L.start w0 base → OW < base ∧ ∃ m, w0.cell? ⟨OW, 0, none⟩ = some (.int .i64 m)
theorem ql.Uc (M : ql L) : Ny L where
 join := fun ws sep h1 h2 H => u6 fun g w vs hs hr => by
  obtain ⟨v, u, rfl, r1, r2⟩ := Ij hr
  rw [iK r2]
  obtain ⟨a, c, rfl, hc, hcell⟩ := Hy hs r1
  refine ⟨_, .str _, ?_⟩
  cases ws with
  | nil => exact M.I8 a c _ w
  | cons s ws =>
   obtain ⟨b, o, rfl, hb, hcell⟩ := hcell (by simp)
   have hmm : ((s :: ws).map fun s => (⟨s.toArray⟩ : ByteArray)).map (·.data.toList) = s :: ws := by
    rw [List.map_map]
    exact (List.map_congr_left (g := id) fun x _ => by simp).trans (List.map_id _)
   have := M.join b o c ((s :: ws).map fun s => ⟨s.toArray⟩) ⟨sep.toArray⟩ w (fun j x hx => by
    rw [List.getElem?_map] at hx
    cases hj : (s :: ws)[j]? with
    | none => rw [hj] at hx; cases hx
    | some y => rw [hj] at hx; cases hx; exact hcell j y hj) hb (by simp at h2 ⊢; omega) (by simpa using hc) (by rw [hmm, BK, CJ]; omega)
   rw [hmm, BK, CJ] at this
   simpa using this
theorem Vl {f : Nat} {args : List au} {H : Heap} {xs : List au} {t : TypeId} (hk : ∀ x ∈ xs, x.cells.length = 1)
  (hc : ∀ g w vs, St L g w H → aX L g vs args → ∃ us, aX L g us (flat xs) ∧
   Calls L.P (L.num f) vs.toArray w fun e w' => ∃ v', e = .returned v' ∧ w'.ownsRow w.heap.size t 1 v' xs.length us ∧ Below w.heap.size w w') :
  aC L f args H fun r H' => r = .ret (.lst xs .none) ∧ H' = H := fun g w vs hs hr => by
 obtain ⟨us, h1, h2⟩ := hc g w vs hs hr
 refine h2.mono fun e w' ⟨v', e1, hown, hb⟩ => ?_
 have hs1 := hs.wider hb
 rcases hown.2 with ⟨rfl, h0⟩ | ⟨gb, cap, cur, rfl, hge, hblk, hcap, _, _, hcells⟩
 ·obtain rfl : xs = [] := List.eq_nil_of_length_eq_zero h0
  exact ⟨.ret (.lst [] .none), H, g, ⟨rfl, rfl⟩, aA.le.refl g, hs1, _, e1, .lst none 0 1 0 0 [] [] .none (fun h => absurd rfl h) (fun j v h => by simp at h) (by simp) (Nat.le_refl 0) trivial .nil⟩
 ·have hul : us.length = xs.length := by have := hown.1; omega
  have hkp : g.kp gb = none := by
   cases hq : g.kp gb with
   | none => rfl
   | some o => have := hs.MG hq; omega
  have hf : ∀ o, 0 ≤ o → o < 0 + us.length → g.fz gb o = none := fun o _ _ => by
   cases hq : g.fz gb o with
   | none => rfl
   | some v => have := hs.EW hq; omega
  have hle := aA.nR hkp hf
  have h8 : St L (g.iR gb 0 us) w' H := hs1.oZ hkp hf (fun j v hv => by
   rw [Nat.zero_add]
   have h3 : cur.toList[j]? = some v := by
    have h4 : (cur.toList.take (xs.length * 1))[j]? = some v := by rw [hcells]; exact hv
    rw [List.getElem?_take] at h4
    split at h4
    ·exact h4
    ·cases h4
   simp only [World.cell?, hblk, Option.isSome_none, Bool.false_eq_true, if_false]
   simpa using h3) (fun id o s _ _ hq => by have := hs.bnd _ _ _ hq; omega)
  exact ⟨.ret (.lst xs .none), H, _, ⟨rfl, rfl⟩, hle, h8, _, e1, .lst _ _ 1 gb 0 xs us .none (fun _ => rfl) (fun j v hv => aA.pO _ _ _ _ j v hv) hk hcap trivial (h1.mono hle)⟩
theorem ql.LJ (M : ql L) (ns : List Bytes) (hn : ns.length ≤ 2 ^ 40) : Pure L 208 [.lst (aS ns) .none] (.lst (aS ns) .none) := fun H => by
 refine Vl (t := M.TG) (fun x hx => by
  simp only [aS, List.mem_map] at hx
  obtain ⟨s, _, rfl⟩ := hx
  rfl) fun g w vs hs hr => ?_
 obtain ⟨v, rfl, h⟩ := Ik hr
 obtain ⟨a, c, rfl, hc, hcell⟩ := Hy hs h
 have hl : (aS ns).length = ns.length := by simp [aS]
 rw [rY, hl]
 refine ⟨_, wZ ns, ?_⟩
 cases ns with
 | nil =>
  cases a with
  | none => exact (M.JQ 0 c w).mono fun e w' ⟨e1, e2⟩ => ⟨_, e1, ⟨rfl, .inl ⟨rfl, rfl⟩⟩, e2 ▸ Below.refl _ _⟩
  | some a => exact (M.Fp a c w).mono fun e w' ⟨v', e1, e2, _, e3⟩ => ⟨v', e1, e2, e3⟩
 | cons s ns =>
  obtain ⟨b, o, rfl, hb, hcell⟩ := hcell (by simp)
  have h3 := M.clone b o (s :: ns).length c ((s :: ns).map fun s => ⟨s.toArray⟩) w (by simp) (by omega) (fun j hj => by
   have hj' : j < (s :: ns).length := by simpa using hj
   rw [hcell j (s :: ns)[j] (List.getElem?_eq_getElem hj')]
   simp only [List.getD_eq_getElem?_getD, List.getElem?_map, List.getElem?_eq_getElem hj', Option.map_some, Option.getD_some])
  refine h3.mono fun e w' ⟨v', e1, e2, _, e3⟩ => ⟨v', e1, ?_, e3⟩
  rw [List.take_of_length_le (by simp), List.map_map] at e2
  exact e2
theorem ixb (c : UInt8) : ∀ l : Bytes, decide (Lib.indexByte l c ≥ 0) = inA c l
 | [] => rfl
 | b :: l => by
  have ih := ixb c l
  have hge := Lib.indexByte_ge l c
  unfold inA at ih ⊢
  rw [List.any_cons, Lib.indexByte, ← ih]
  cases hb : (b == c)
  ·simp only [Bool.false_eq_true, if_false, Bool.false_or]
   by_cases h1 : Lib.indexByte l c = -1
   ·rw [h1]; rfl
   ·rw [if_neg (by simpa using h1)]
    have : Lib.indexByte l c ≥ 0 := by omega
    rw [decide_eq_true this]
    exact decide_eq_true (by omega)
  ·simp
theorem ql.lex (M : ql L) : SV L where
 idx := fun c => ⟨Lib.indexByte kS c, ixb c kS, fun H => u6 fun g w vs hs hr => by
  obtain ⟨v, u, rfl, h1, h2⟩ := Ij hr
  rw [iK h1, fO h2]
  refine ⟨_, .int _ _, (M.indexByte _ _ w).mono fun e w' ⟨e1, e2⟩ => ⟨?_, e2 ▸ Below.refl _ _⟩⟩
  rw [e1, BK]
  simp⟩
 cut := fun c s hs0 H => u6 fun g w vs hs hr => by
  obtain ⟨v, u, rfl, h1, h2⟩ := Ij hr
  rw [iK h1, iK h2]
  obtain ⟨q1, m, q2⟩ := M.st _ _ hs.fact
  have hm : w.cell? ⟨M.OW, 0, none⟩ = some (.int .i64 m) := (hs.below.cell (p := ⟨M.OW, 0, none⟩) q1).trans q2
  refine ⟨_, .tup [_, _, _] _ (.cons _ _ _ _ (.str _) (.cons _ _ _ _ (.str _) (.cons _ _ _ _ (.bool _) .nil))), (M.cut _ _ m w (by rw [sizeB]; omega) hm).mono fun e w' ⟨e1, n, e2⟩ => ⟨?_, e2 ▸ below_drewN _ _⟩⟩
  rw [e1, BK, BK, Vq]
end Go.Ag
/- The library's sorts: what they do to a row. -/
namespace Go.Ag
open Go Go.Sort Go.Proofs
open Go.RowKit (Below)
variable {L : Lnk} {g : aA} {w : World} {H : Heap}
theorem Ih (hs : St L g w H) {id v t k : Nat} {xs ys : List au} {s : jR} {cur cur' : Array Value} {w' : World} (hH : H[id]? = some (.arr v xs t)) (hs' : g.ob id v = some s) (hsk : s.k = k)
  (hcur : w.heap[s.b]? = some (.cells cur (L.ty t) (0, 0))) (hcur' : w'.heap[s.b]? = some (.cells cur' (L.ty t) (0, 0))) (hsize : cur'.size = cur.size) (hy : ∀ y ∈ ys, y.cells.length = k) (hlen : ys.length = xs.length)
  (hother : ∀ b, b ≠ s.b → b < w.heap.size → w'.heap[b]? = w.heap[b]?) (hsz : w.heap.size ≤ w'.heap.size) (hos : w'.os = w.os) (htp : w'.tape = w.tape) (hout : w'.output = w.output)
  (hrep : aX L g (cur'.toList.take (ys.length * k)) (flat ys)) : St L g w' (H.set id (.arr v ys t)) := by
 obtain ⟨s0, cur0, e1, e0, e2, e3, e4, e5, e6, e7, e8, e9, e10⟩ := hs.obj id _ hH
 rw [hs'] at e1; cases e1
 rw [hcur] at e4; cases e4
 exact hs.Kk (s1 := s) hH rfl hs' (aA.le.refl g) rfl rfl rfl (fun _ _ _ => rfl) (fun _ s2 h2 => .inl h2) (fun _ => hs') (.inl rfl) (Nat.lt_of_lt_of_le (hs.bnd _ _ _ hs') hsz) e9 (by rw [hcur]; simp)
  hother hsz hos htp hout
  ⟨s, cur', hs', e0, e2, e3, hcur', hsize.trans e5, fun x hx => by rw [hsk]; exact hy x hx, by rw [hlen]; exact e7, by rw [hsk]; exact hrep, e9, e10⟩
theorem Jq {w : World} {blk n : Nat} {f : Array Value → Array Value} {os : Array Obj} {cur : Array Value} {t : TypeId} (h : w.heap[blk]? = some (.cells cur t (0, 0))) :
  (grow (mapBlock (Sort.ahead w n) blk f) os).heap[blk]? = some (.cells (f cur) t (0, 0)) := by
 have hlt : blk < w.heap.size := (Array.getElem?_eq_some_iff.1 h).1
 show (w.heap.modify blk (onCells f) ++ os)[blk]? = _
 rw [Array.getElem?_append_left (by simpa using hlt), Array.getElem?_modify, if_pos rfl, h]
 rfl
theorem ES {w : World} {blk n b : Nat} {f : Array Value → Array Value} {os : Array Obj} (hb : b ≠ blk) (hlt : b < w.heap.size) :
  (grow (mapBlock (Sort.ahead w n) blk f) os).heap[b]? = w.heap[b]? := by
 show (w.heap.modify blk (onCells f) ++ os)[b]? = _
 rw [Array.getElem?_append_left (by simpa using hlt), Array.getElem?_modify, if_neg (Ne.symm hb)]
theorem CV {w : World} {blk n : Nat} {f : Array Value → Array Value} {os : Array Obj} : w.heap.size ≤ (grow (mapBlock (Sort.ahead w n) blk f) os).heap.size := by
 show w.heap.size ≤ (w.heap.modify blk (onCells f) ++ os).size
 rw [Array.size_append, Array.size_modify]; omega
theorem wM {α : Type} [Inhabited α] (enc : α → Value) (d : Array α) (c : Array Value) (off : Nat) : (putCells enc off d c).size = c.size := by simp [putCells]
theorem wL {α : Type} [Inhabited α] (enc : α → Value) (d : Array α) (c : Array Value) (h : d.size ≤ c.size) : (putCells enc 0 d c).toList.take d.size = d.toList.map enc := by
 apply List.ext_getElem?
 intro j
 rw [List.getElem?_take]
 split
 ·rename_i hj
  simp only [putCells, Array.getElem?_toList, List.getElem?_map, Array.getElem?_mapIdx]
  rw [Array.getElem?_eq_getElem (by omega), Array.getElem?_eq_getElem hj]
  simp [hj]
 ·rename_i hj
  rw [List.getElem?_eq_none (by simp; omega)]
structure zW (L : Lnk) : Prop where
 sort : ∀ (blk off cap : Nat) (ss : List Bytes) (w : World), Holds encStr w blk off ss.toArray → blk < w.heap.size → ss.length < 4611686018427387904 →
  Calls L.P (L.num 200) #[.slice (some ⟨blk, off, none⟩) ss.length cap] w fun e w' =>
   e = .returned (.tuple #[]) ∧ ∃ n os, w' = grow (putRow encStr (Sort.ahead w n) blk off (ss.mergeSort fun x y => decide (x ≤ y)).toArray) os
 none : ∀ (p : Option Addr) (cap : Nat) (w : World), Calls L.P (L.num 200) #[.slice p 0 cap] w fun e w' => e = .returned (.tuple #[]) ∧ w' = w
theorem zW.par (M : zW L) : GZ L where
 BQ := fun H => u6 fun g w vs hs hr => by
  obtain ⟨v, rfl, h⟩ := Ik hr
  obtain ⟨a, c, k, b, o, vs, rfl, _⟩ := lC h
  exact ⟨_, .tup [] [] .nil, (M.none a c w).mono fun e w' ⟨e1, e2⟩ => ⟨e1, e2 ▸ Below.refl _ _⟩⟩
 sort := fun l n id t H hH hn hne hl g w vs hs hr => by
  obtain ⟨v, rfl, h⟩ := Ik hr
  cases h with
  | vec _ _ _ _ _ c s hs' hsk hc hz =>
   obtain ⟨s0, cur, e1, e0, e2, e3, e4, e5, e6, e7, e8, e9, e10⟩ := hs.obj id _ hH
   rw [hs'] at e1; cases e1
   have hll : (aS l).length = l.length := by simp [aS]
   rw [hsk, Nat.mul_one, hll] at e7 e8
   rw [rY] at e8
   have hcells := Ei e8
   have QJ : Holds encStr w s.b 0 l.toArray := fun j hj => by
    have hj' : j < l.length := by simpa using hj
    have h3 : cur.toList[j]? = some (.string ⟨l[j].toArray⟩) := by
     have : (cur.toList.take l.length)[j]? = some (.string ⟨l[j].toArray⟩) := by rw [hcells]; simp [hj']
     rw [List.getElem?_take, if_pos hj'] at this
     exact this
    rw [Nat.zero_add]
    refine ⟨?_, by simp [World.frozen?, e4]⟩
    simp only [World.cell?, e4, Option.isSome_none, Bool.false_eq_true, if_false]
    rw [← Array.getElem?_toList, h3]
    simp [encStr, hj']
   have hcall := M.sort s.b 0 c l w QJ (hs.bnd _ _ _ hs') (by omega)
   rw [hn]
   refine hcall.mono fun e w' ⟨he, m, os, hw⟩ => ?_
   have hpl : (mK l).length = l.length := (sM l).length_eq
   have hst : St L g w' (H.set id (.arr n (aS (mK l)) t)) := by
    rw [hw]
    refine Ih hs hH hs' hsk e4 (Jq e4) (wM _ _ _ _) (fun y hy => ?_) (by simp [aS, hpl]) (fun b hb hlt => ES hb hlt) CV rfl rfl rfl ?_
    ·simp only [aS, List.mem_map] at hy
     obtain ⟨s, _, rfl⟩ := hy
     rfl
    ·rw [rY, Nat.mul_one]
     have h5 := wL encStr (mK l).toArray cur (by simp [hpl]; omega)
     have h6 : (mK l).toArray.size = (aS (mK l)).length := by simp [aS]
     rw [h6] at h5
     show aX L g ((putCells encStr 0 (mK l).toArray cur).toList.take _) _
     rw [h5]
     exact wZ _
   exact ⟨.ret (.tup []), H.set id (.arr l.length (aS (mK l)) t), g, ⟨rfl, rfl⟩, aA.le.refl g, hn ▸ hst, _, he, .tup [] [] .nil⟩
end Go.Ag
/- The library's sort of keyed types by a comparing function: what it does to a row. -/
namespace Go.Ag
open Go Go.Sort Go.Proofs
open Go.RowKit (Below)
variable {L : Lnk} {g : aA} {w : World} {H : Heap}
def KV : Type := { q : List Value × Bytes // q.1.length = 4 ∧ ∀ v ∈ q.1, v.oneCell' = true }
instance : Inhabited KV := ⟨⟨([.bool false, .bool false, .bool false, .bool false], []), rfl, fun v hv => by simp at hv; subst hv; rfl⟩⟩
def qX (x : KV) : List Value := x.1.1 ++ [.string ⟨x.1.2.toArray⟩]
theorem Dc (x : KV) : (qX x).length = 5 := by simp [qX, x.2.1]
theorem Rb (x : KV) : ∀ v ∈ qX x, v.oneCell' = true := fun v hv => by
 rcases List.mem_append.1 hv with hv | hv
 ·exact x.2.2 v hv
 ·simp only [List.mem_singleton] at hv; subst hv; rfl
theorem CY {α : Type} [Inhabited α] {enc : α → List Value} {k : Nat} (hk : ∀ x, (enc x).length = k) : ∀ (l : List α) (j : Nat), j < l.length * k → (l.flatMap enc)[j]? = some ((enc (l[j / k]!))[j % k]!)
 | [], j, h => by simp at h
 | x :: l, j, h => by
  have h0 : 0 < k := by
   rcases Nat.eq_zero_or_pos k with h' | h'
   ·subst h'; simp at h
   ·exact h'
  rw [List.flatMap_cons]
  rcases Nat.lt_or_ge j k with hj | hj
  ·rw [List.getElem?_append_left (by rw [hk]; exact hj), Nat.div_eq_of_lt hj, Nat.mod_eq_of_lt hj, List.getElem?_eq_getElem (by rw [hk]; exact hj)]
   simp [hk, hj]
  ·rw [List.getElem?_append_right (by rw [hk]; exact hj), hk]
   have h1 : j - k < l.length * k := by rw [List.length_cons, Nat.add_mul] at h; omega
   rw [CY hk l (j - k) h1]
   have h2 : j / k = (j - k) / k + 1 := by rw [← Nat.sub_add_cancel hj, Nat.add_div_right _ h0]; simp
   have h3 : j % k = (j - k) % k := by rw [Nat.mod_eq_sub_mod hj]
   rw [h2, h3]
   rfl
theorem CZ {α : Type} [Inhabited α] {enc : α → List Value} {k : Nat} (hk : ∀ x, (enc x).length = k) (d : Array α) : (flatK enc k d).toList = d.toList.flatMap enc := by
 have hl : (d.toList.flatMap enc).length = d.size * k := by
  rw [List.length_flatMap, show d.toList.map (fun x => (enc x).length) = d.toList.map fun _ => k from List.map_congr_left fun x _ => hk x, List.map_const', List.sum_replicate_nat, Array.length_toList]
 apply List.ext_getElem?
 intro j
 rcases Nat.lt_or_ge j (d.size * k) with hj | hj
 ·rw [CY hk d.toList j (by simpa using hj)]
  rw [Array.getElem?_toList, Array.getElem?_eq_getElem (by simpa using hj)]
  have := get_flatK enc k d j hj
  rw [getElem!_pos _ j (by simpa using hj)] at this
  rw [this]
  simp
  congr 2
  rw [getElem!_def]; cases d[j / k]? <;> rfl
 ·rw [List.getElem?_eq_none (by simpa using hj), List.getElem?_eq_none (by rw [hl]; exact hj)]
theorem Er {α β : Type} {f : α → β} : ∀ {l : List β} {zs : List α}, (zs.map f).Perm l → ∃ zs', zs.Perm zs' ∧ zs'.map f = l
 | [], zs, h => by
  have : zs = [] := by simpa using h.eq_nil
  subst this
  exact ⟨[], .refl _, rfl⟩
 | y :: l, zs, h => by
  have hy : y ∈ zs.map f := h.symm.subset List.mem_cons_self
  obtain ⟨z, hz, rfl⟩ := List.mem_map.1 hy
  obtain ⟨s, t, rfl⟩ := List.append_of_mem hz
  have h1 : ((s ++ z :: t).map f).Perm (f z :: (s ++ t).map f) := by
   simp only [List.map_append, List.map_cons]
   exact List.perm_middle
  have h2 : ((s ++ t).map f).Perm l := List.Perm.cons_inv (h1.symm.trans h)
  obtain ⟨zs', e1, e2⟩ := Er h2
  exact ⟨z :: zs', List.perm_middle.trans (e1.cons z), by rw [List.map_cons, e2]⟩
theorem Ov {us : List Value} : ∀ {xs : List (TA × Bytes)}, aX L g us (flat (kvs xs)) → ∃ zs : List (KV × (TA × Bytes)), zs.map (·.2) = xs ∧ us = (zs.map (·.1)).flatMap qX ∧ ∀ z ∈ zs, aX L g (qX z.1) (I7 z.2) ∧ z.1.1.2 = z.2.2 := fun {xs} h => by
 induction xs generalizing us with
 | nil => cases h; exact ⟨[], rfl, rfl, fun z hz => by cases hz⟩
 | cons p xs ih =>
  obtain ⟨⟨k, nm, ns, l⟩, s⟩ := p
  rw [show flat (kvs ((TA.mk k nm ns l, s) :: xs)) = .int .i64 k :: .str nm :: .lst (aS ns) .none :: .lst (TA.avs l) .none :: .str s :: flat (kvs xs) from rfl] at h
  cases h with | cons v0 _ _ _ h0 h =>
  cases h with | cons v1 _ _ _ h1 h =>
  cases h with | cons v2 _ _ _ h2 h =>
  cases h with | cons v3 _ _ _ h3 h =>
  cases h with | cons v4 _ vs _ h4 h =>
  obtain ⟨zs, e1, e2, e3⟩ := ih h
  have hs := iK h4
  subst hs
  refine ⟨(⟨([v0, v1, v2, v3], s), rfl, fun v hv => ?_⟩, (.mk k nm ns l, s)) :: zs, by rw [List.map_cons, e1], ?_, fun z hz => ?_⟩
  ·simp only [List.mem_cons, List.not_mem_nil, or_false] at hv
   rcases hv with rfl | rfl | rfl | rfl
   ·exact uM h0 rfl
   ·exact uM h1 rfl
   ·exact uM h2 rfl
   ·exact uM h3 rfl
  ·rw [List.map_cons, List.flatMap_cons, ← e2]; rfl
  ·rcases List.mem_cons.1 hz with rfl | hz
   ·exact ⟨.cons _ _ _ _ h0 (.cons _ _ _ _ h1 (.cons _ _ _ _ h2 (.cons _ _ _ _ h3 (.cons _ _ _ _ h4 .nil)))), rfl⟩
   ·exact e3 z hz
theorem I5 : ∀ {zs : List (KV × (TA × Bytes))}, (∀ z ∈ zs, aX L g (qX z.1) (I7 z.2) ∧ z.1.1.2 = z.2.2) → aX L g ((zs.map (·.1)).flatMap qX) (flat (kvs (zs.map (·.2))))
 | [], _ => .nil
 | z :: zs, h => by
  rw [List.map_cons, List.map_cons, List.flatMap_cons]
  exact ((h z List.mem_cons_self).1).append (I5 fun y hy => h y (List.mem_cons_of_mem _ hy))
structure sw (L : Lnk) where
 cf : Bytes → Bytes → Int
 lt : ∀ s t : Bytes, cf s t < 0 ↔ s < t
 sort : ∀ (blk off cap : Nat) (d : Array KV) (w : World), HoldsK qX 5 w blk off d → blk < w.heap.size → d.size < 4611686018427387904 →
  Calls L.P (L.num 252) #[.slice (some ⟨blk, off, none⟩) d.size cap, .func (.func (L.num 253)) #[] #[]] w fun e w' =>
   e = .returned (.tuple #[]) ∧ ∃ d' n os, PermIn 0 d.size d d' ∧ SortedIn (fun x y => decide (cf x.1.2 y.1.2 < 0)) 0 d.size d' ∧ w' = sortWorldK qX 5 w blk off n d' os
 none : ∀ (p : Option Addr) (cap : Nat) (fv : Value) (w : World), Calls L.P (L.num 252) #[.slice p 0 cap, fv] w fun e w' => e = .returned (.tuple #[]) ∧ w' = w
theorem sw.BQ (M : sw L) (H : Heap) : aC L 252 [.lst [] .nil, .fn (.func 253) [] []] H fun r H' => r = .ret (.tup []) ∧ H' = H := u6 fun g w vs hs hr => by
 obtain ⟨v, u, rfl, h, _⟩ := Ij hr
 obtain ⟨a, c, k, b, o, vs, rfl, _⟩ := lC h
 exact ⟨_, .tup [] [] .nil, (M.none a c u w).mono fun e w' ⟨e1, e2⟩ => ⟨e1, e2 ▸ Below.refl _ _⟩⟩
theorem sw.NZ (M : sw L) (xs : List (TA × Bytes)) (n id t : Nat) (H : Heap) (hH : H[id]? = some (.arr n (kvs xs) t)) (hn : n = xs.length) (hne : xs ≠ []) (hl : n ≤ 2 ^ 40) :
  aC L 252 [.vec id n 5 0 n, .fn (.func 253) [] []] H fun r H' => r = .ret (.tup []) ∧ ∃ ys : List (TA × Bytes), ys.Perm xs ∧ ys.Pairwise (fun a b => a.2 ≤ b.2) ∧ H' = H.set id (.arr n (kvs ys) t) := fun g w vs hs hr => by
 obtain ⟨v, u, rfl, h, hu⟩ := Ij hr
 cases hu with | fn f _ fi ca _ _ hf h1 h2 =>
 cases h1
 cases h2
 cases f with
 | func f =>
  obtain ⟨rfl, _⟩ := hf
  cases h with
  | vec _ _ _ _ _ c s hs' hsk hc hz =>
   obtain ⟨s0, cur, e1, e0, e2, e3, e4, e5, e6, e7, e8, e9, e10⟩ := hs.obj id _ hH
   rw [hs'] at e1; cases e1
   rw [hsk, jr] at e7 e8
   obtain ⟨zs, f1, f2, f3⟩ := Ov e8
   have hzl : zs.length = n := by rw [hn, ← f1]; simp
   have hds : (zs.map (·.1)).toArray.size = n := by simp [hzl]
   have hfl : (flatK qX 5 (zs.map (·.1)).toArray).toList = cur.toList.take (xs.length * 5) := by rw [CZ Dc, f2]
   have hfs : (flatK qX 5 (zs.map (·.1)).toArray).size = xs.length * 5 := by simp [hzl, hn]
   have QJ : HoldsK qX 5 w s.b 0 (zs.map (·.1)).toArray := fun j hj => by
    rw [hfs] at hj
    have h3 : cur.toList[j]? = some ((flatK qX 5 (zs.map (·.1)).toArray)[j]!) := by
     have h4 : (flatK qX 5 (zs.map (·.1)).toArray).toList[j]? = cur.toList[j]? := by rw [hfl, List.getElem?_take, if_pos hj]
     rw [← h4, Array.getElem?_toList, Array.getElem?_eq_getElem (by rw [hfs]; exact hj), getElem!_pos _ j (by rw [hfs]; exact hj)]
    rw [Nat.zero_add]
    refine ⟨?_, by simp [World.frozen?, e4]⟩
    simp only [World.cell?, e4, Option.isSome_none, Bool.false_eq_true, if_false]
    rw [← Array.getElem?_toList, h3]
    rfl
   have hcall := M.sort s.b 0 c _ w QJ (hs.bnd _ _ _ hs') (by rw [hds]; omega)
   rw [hds] at hcall
   refine hcall.mono fun e w' ⟨he, d', m, os, hp, hso, hw⟩ => ?_
   obtain ⟨p1, _, p3⟩ := hp
   rw [hds] at p1
   have hperm : (zs.map (·.1)).Perm d'.toList := by
    have e1 : (d'.extract 0 n) = d' := by rw [← p1, Array.extract_size]
    have e2 : ((zs.map (·.1)).toArray.extract 0 n) = (zs.map (·.1)).toArray := by
     conv => lhs; rw [← hds]
     rw [Array.extract_size]
    rw [e1, e2] at p3
    exact p3.symm
   obtain ⟨zs', g1, g2⟩ := Er hperm
   have f3' : ∀ z ∈ zs', aX L g (qX z.1) (I7 z.2) ∧ z.1.1.2 = z.2.2 := fun z hz => f3 z (g1.symm.subset hz)
   have hzl' : zs'.length = n := by rw [← g1.length_eq, hzl]
   have hys : (zs'.map (·.2)).Perm xs := by rw [← f1]; exact (g1.symm.map _)
   have hd' : d' = (zs'.map (·.1)).toArray := by rw [g2]
   refine ⟨.ret (.tup []), H.set id (.arr n (kvs (zs'.map (·.2))) t), g, ⟨rfl, _, hys, ?_, rfl⟩, aA.le.refl g, ?_, _, he, .tup [] [] .nil⟩
   ·rw [List.pairwise_iff_getElem]
    intro i j hi hj hij
    have hi' : i < zs'.length := by simpa using hi
    have hj' : j < zs'.length := by simpa using hj
    have h5 := hso i j (Nat.zero_le _) hij (by omega)
    rw [hd'] at h5
    have q1 : (zs'.map (·.1)).toArray[i]! = zs'[i].1 := by rw [getElem!_pos _ i (by simpa using hi')]; simp
    have q2 : (zs'.map (·.1)).toArray[j]! = zs'[j].1 := by rw [getElem!_pos _ j (by simpa using hj')]; simp
    rw [q1, q2] at h5
    dsimp only at h5
    rw [(f3' _ (List.getElem_mem hi')).2, (f3' _ (List.getElem_mem hj')).2] at h5
    have h6 := of_decide_eq_false h5
    have h7 : ¬ zs'[j].2.2 < zs'[i].2.2 := fun hh => h6 ((M.lt _ _).2 hh)
    simpa using List.not_lt.1 h7
   ·rw [hw]
    have h7 : sortWorldK qX 5 w s.b 0 m d' os = grow (mapBlock (Sort.ahead w m) s.b (putCells (_root_.id : Value → Value) 0 (flatK qX 5 d'))) os := rfl
    rw [h7]
    have hfs' : (flatK qX 5 d').size = n * 5 := by simp [p1]
    refine Ih hs hH hs' hsk e4 (Jq e4) (wM _ _ _ _) (fun y hy => uS _ y hy) (by rw [jr, jr, List.length_map, hzl', hn]) (fun b hb hlt => ES hb hlt) CV rfl rfl rfl ?_
    rw [jr, List.length_map, hzl']
    have h8 := wL (_root_.id : Value → Value) (flatK qX 5 d') cur (by rw [hfs']; omega)
    rw [hfs', List.map_id, CZ Dc] at h8
    rw [h8, hd']
    exact I5 f3'
 | _ => exact absurd hf (by simp [J9])
end Go.Ag
/- The library's ParseInt of a text of digits: what the document's Number is. -/
namespace Go.Ag
open Go
open Go.RowKit (Below)
variable {L : Lnk}
def oO (n : Nat) (c : UInt8) : Nat := n * 10 + (c.toNat - 48)
theorem Ql {n : Nat} {c : UInt8} (h1 : 48 ≤ c.toNat) (h2 : c.toNat ≤ 57) (hn : n < 10 ^ 17) : vJ (n : Int) c = ((oO n c : Nat) : Int) := by
 unfold vJ oO
 have e1 : IntKind.u8.wrap ((c.toNat : Int) - 48) = (c.toNat : Int) - 48 := IntWalk.u8_in _ (by omega)
 rw [e1, IntWalk.i64_in (10 * (n : Int)) (by omega), IntWalk.i64_in ((c.toNat : Int) - 48) (by omega), IntWalk.i64_in _ (by omega)]
 omega
theorem Iy : ∀ (l : Bytes) (acc : Nat), (∀ c ∈ l, 48 ≤ c.toNat ∧ c.toNat ≤ 57) → l.length ≤ 18 → acc < 10 ^ (18 - l.length) →
  Lib.parseUintM (2 ^ 64 - 1) acc l = .ok (l.foldl oO acc) ∧ l.foldl vJ (acc : Int) = ((l.foldl oO acc : Nat) : Int) ∧ l.foldl oO acc < 10 ^ 18
 | [], acc, h, hl, ha => ⟨rfl, rfl, ha⟩
 | c :: l, acc, h, hl, ha => by
  obtain ⟨h1, h2⟩ := h c (by simp)
  rw [List.length_cons] at hl ha
  have e1 : 18 - l.length = (18 - (l.length + 1)) + 1 := by omega
  have hp : 10 ^ (18 - l.length) = 10 ^ (18 - (l.length + 1)) * 10 := by rw [e1, Nat.pow_succ]
  have hle : 10 ^ (18 - (l.length + 1)) ≤ 10 ^ 17 := Nat.pow_le_pow_right (by decide) (by omega)
  have ha2 : oO acc c < 10 ^ (18 - l.length) := by unfold oO; omega
  obtain ⟨k1, k2, k3⟩ := Iy l (oO acc c) (fun d hd => h d (by simp [hd])) (by omega) ha2
  refine ⟨?_, ?_, k3⟩
  ·rw [Lib.parseUintM, if_pos ⟨h1, h2⟩, if_neg (by omega), if_neg (by omega)]
   exact k1
  ·rw [List.foldl_cons, Ql h1 h2 (by omega)]
   exact k2
theorem Og {s : Bytes} (h : yu s) : Lib.parseIntB 64 s = .ok (sZ s) := by
 obtain ⟨h0, h1, h2⟩ := h
 obtain ⟨k1, k2, k3⟩ := Iy s 0 h2 h1 (Nat.pow_pos (by decide))
 cases s with
 | nil => exact absurd rfl h0
 | cons c r =>
  obtain ⟨c1, c2⟩ := h2 c (by simp)
  unfold Lib.parseIntB
  simp only
  rw [if_neg (by omega), show Lib.parseUintB 64 (c :: r) = .ok ((c :: r).foldl oO 0) from by unfold Lib.parseUintB; rw [if_neg (by simp)]; exact k1]
  simp only
  rw [if_neg (by omega), if_neg (by omega), if_neg (by omega)]
  congr 1
  exact k2.symm
structure G5 (L : Lnk) where
 t : TypeId
 parse : ∀ (s : ByteArray) (v : Int) (w : World), s.size ≤ 9223372036854775806 → Lib.parseIntB 64 s.data.toList = .ok v →
  Calls L.P (L.num 322) #[.string s, .int .i64 10, .int .i64 64] w fun e w' => e = .returned (.tuple #[.int .i64 v, .nilIface]) ∧ (w' = w ∨ ∃ z, w' = Lib.bytesWorld w t z)
theorem G5.lib (M : G5 L) : SL L where
 num := fun s hs H => O0 fun g w vs hst hr => by
  cases hr with
  | cons v _ vs' _ h0 hr =>
   cases hr with
   | cons v1 _ vs1 _ h1 hr =>
    cases hr with
    | cons v2 _ vs2 _ h2 hr =>
     cases hr
     cases h0
     cases h1
     cases h2
     have hl := hs.2.1
     refine (M.parse ⟨s.toArray⟩ (sZ s) w (by show s.toArray.size ≤ _; rw [List.size_toArray]; omega) (by show Lib.parseIntB 64 s.toArray.toList = _; rw [List.toList_toArray]; exact Og hs)).mono fun e w' ⟨e1, e2⟩ => ⟨⟨_, e1, .tup [_, _] _ (.cons _ _ _ _ (.int _ _) (.cons _ _ _ _ .eF .nil))⟩, ?_⟩
     rcases e2 with rfl | ⟨z, rfl⟩
     ·exact Below.refl _ _
     ·exact Lib.bytesWorld_below _ _ _
end Go.Ag
/- Package cupellaw08: AliasOrder. -/
namespace Go.Ag
open Go
variable {T : Tab} {L : Lnk}
section congr
variable {b1 b2 : List (Bytes × TA)}
end congr
theorem OC {a : Int} (h : 0 ≤ a) (h2 : a ≤ 2 ^ 60) : IntKind.i64.wrap a = a := IntWalk.i64_in _ (by omega)
end Go.Ag
/- Types of long texts: how much they are by their sizes and their longest name; where heads come from. -/
namespace Go.Ag
open Go
variable {T : Tab} {L : Lnk} {by_ : List (Bytes × TA)} {e : fV} {C : List TA}
mutual
def Nm (m : Nat) : TA → Prop
 | .mk k nm ns l => nm.length ≤ m ∧ (∀ n ∈ ns, n.length ≤ m) ∧ NmL m l
def NmL (m : Nat) : List TA → Prop
 | [] => True
 | t :: l => Nm m t ∧ NmL m l
end
theorem nN {m : Nat} {l : List TA} : NmL m l ↔ ∀ t ∈ l, Nm m t := by
 induction l with
 | nil => rw [NmL]; simp
 | cons t l ih => rw [NmL, ih]; simp
theorem qI (m : Nat) : Nm m kW := by unfold kW; rw [Nm, NmL]; simp
theorem yw (m : Nat) (k : Int) : Nm m (.mk k [] [] []) := by rw [Nm, NmL]; simp
structure NmR (m n : Nat) : Prop where
 typ : ∀ d s, s.ok → su m s → Nm m (bG n d s).1
 alts : ∀ d l s, s.ok → su m s → (∀ t ∈ l, Nm m t) → ∀ t ∈ (iE n d l s).1, Nm m t
 arrow : ∀ d s, s.ok → su m s → Nm m (bN n d s).1
 plain : ∀ d s, s.ok → su m s → Nm m (dL n d s).1
 fields : ∀ d o s, s.ok → su m s → Nm m o → Nm m (bT n d o s).1
theorem TQ (m : Nat) : ∀ n, NmR m n := fun n => by
 induction n with
 | zero => exact ⟨fun d s _ _ => by rw [bG]; exact qI m, fun d l s _ _ h => by rw [iE]; exact h, fun d s _ _ => by rw [bN]; exact qI m, fun d s _ _ => by rw [dL]; exact qI m, fun d o s _ _ h => by rw [bT]; exact h⟩
 | succ n ih =>
  obtain ⟨l1, l2, l3, l4, l5⟩ := bL n
  refine ⟨fun d s hs hg => ?_, fun d l s hs hg hl => ?_, fun d s hs hg => ?_, fun d s hs hg => ?_, fun d o s hs hg ho => ?_⟩
  ·have hle : s.le (if 64 < d then bX s 3 else s) := by
    split
    ·exact jM hs 3
    ·exact RS.le.refl hs
   rw [bG]
   generalize (if 64 < d then bX s 3 else s) = s1 at hle ⊢
   have hs1 := hs.of hle
   have hg1 := hg.le hle
   split
   ·exact qI m
   ·split
    ·have ha := ih.arrow d s1 hs1 hg1
     have hal := l3 d s1 hs1
     show Nm m (.mk 7 [] [] _)
     rw [Nm]
     refine ⟨by simp, by simp, nN.2 (ih.alts d _ _ (hs1.of hal) (hg1.le hal) fun t ht => ?_)⟩
     rw [List.mem_singleton] at ht; subst ht; exact ha
    ·exact ih.arrow d s1 hs1 hg1
  ·rw [iE]
   split
   ·have k1 := aK hs lJ
    have k2 := l3 d _ (hs.of k1)
    refine ih.alts d _ _ ((hs.of k1).of k2) ((hg.le k1).le k2) fun t ht => ?_
    rcases List.mem_append.1 ht with ht | ht
    ·exact hl t ht
    ·rw [List.mem_singleton] at ht; subst ht; exact ih.arrow d _ (hs.of k1) (hg.le k1)
   ·exact hl
  ·rw [bN]
   have k1 := l4 d s hs
   have k2 := aK (hs.of k1) pV
   have hp := ih.plain d s hs hg
   split
   ·split
    ·exact hp
    ·show Nm m (.mk 6 [] [] _)
     rw [Nm]
     refine ⟨by simp, by simp, nN.2 fun t ht => ?_⟩
     simp only [List.mem_cons, List.not_mem_nil, or_false] at ht
     rcases ht with rfl | rfl
     ·exact hp
     ·exact ih.arrow (d + 1) _ ((hs.of k1).of k2) ((hg.le k1).le k2)
   ·exact hp
  ·rw [dL]
   split
   ·exact qI m
   split
   ·show Nm m (.mk 8 _ [] [])
    rw [Nm, NmL]
    exact ⟨(Ea hs hg).2, by simp, trivial⟩
   split
   ·exact yw m 1
   split
   ·exact yw m 2
   split
   ·exact yw m 3
   split
   ·exact yw m 4
   split
   ·have k1 := aK hs kLb
    exact ih.fields d _ _ (hs.of k1) (hg.le k1) (yw m 5)
   split
   ·exact qI m
   ·have k1 := aK hs kLp
    exact ih.typ (d + 1) _ (hs.of k1) (hg.le k1)
  ·rw [bT]
   split
   ·split
    ·exact qI m
    ·rename_i hb
     have hb : (aD (aJ s).2 aN).bad = false := by simpa using hb
     obtain ⟨hb2, _, _⟩ := iI hb
     obtain ⟨_, _, hnr⟩ := nU hb2
     have kn : (aJ s).1.text.length ≤ m := by rw [hnr]; exact (Ea hs hg).2
     split
     ·have k1 := jU hs aN hb
      have k2 := l1 (d + 1) _ (hs.of k1)
      have k3 := fK ((hs.of k1).of k2)
      exact ih.fields d o _ (((hs.of k1).of k2).of k3) (((hg.le k1).le k2).le k3) ho
     ·have k1 := (bK hs).trans (aK (hs.of (bK hs)) aN)
      have k2 := l1 (d + 1) _ (hs.of k1)
      have k3 := fK ((hs.of k1).of k2)
      have ht := ih.typ (d + 1) _ (hs.of k1) (hg.le k1)
      refine ih.fields d _ _ (((hs.of k1).of k2).of k3) (((hg.le k1).le k2).le k3) ?_
      obtain ⟨ok, on, ons, ol⟩ := o
      rw [Nm] at ho ⊢
      refine ⟨by simp, fun x hx => ?_, nN.2 fun x hx => ?_⟩
      ·rcases Bh hx with rfl | hx
       ·exact kn
       ·exact ho.2.1 x hx
      ·rcases Bh hx with rfl | hx
       ·exact ht
       ·exact nN.1 ho.2.2 x hx
   ·exact ho
theorem Hl (src : Bytes) (hs : src.length ≤ 2 ^ 31) : Nm (src.length + 2) (oI src).1 := by
 obtain ⟨hok, _, _⟩ := mh src (by omega)
 unfold oI D7
 split
 ·exact (TQ _ _).typ 1 _ hok (wX src)
 ·exact qI _
theorem L8 {m : Nat} {t : TA} (h : GT t) : Nm m t → wtT t + (m + 12) ≤ (2 * m + 28) * szT t := by
 have hL : ∀ {l : List TA}, (∀ t ∈ l, wtT t + (m + 12) ≤ (2 * m + 28) * szT t) → wtL l + l.length * (m + 4) ≤ (2 * m + 28) * szL l := fun {l} hl => by
  induction l with
  | nil => simp [wtL]
  | cons t l ih =>
   have h1 := hl t (by simp)
   have h2 := ih fun x hx => hl x (by simp [hx])
   have e1 := Nat.mul_add (2 * m + 28) (szT t) (szL l)
   have e2 := Nat.succ_mul l.length (m + 4)
   rw [wtL, gM, List.length_cons, e1]
   rw [Nat.succ_eq_add_one] at e2
   rw [e2]
   omega
 have hN : ∀ {ns : List Bytes}, (∀ n ∈ ns, n.length ≤ m) → (ns.map fun n => n.length + 4).sum ≤ ns.length * (m + 4) := fun {ns} hn => by
  induction ns with
  | nil => simp
  | cons n ns ih =>
   have h1 := hn n (by simp)
   have h2 := ih fun x hx => hn x (by simp [hx])
   rw [List.map_cons, List.sum_cons, List.length_cons, Nat.add_mul]
   omega
 have one : ∀ (k : Int) (nm : Bytes), nm.length ≤ m → wtT (.mk k nm [] []) + (m + 12) ≤ (2 * m + 28) * szT (.mk k nm [] []) := fun k nm h => by
  rw [mg, wtT]
  simp [szL, sj, wtL]
  omega
 induction h with
 | int => exact fun _ => one 1 [] (by simp)
 | bool => exact fun _ => one 2 [] (by simp)
 | text => exact fun _ => one 3 [] (by simp)
 | dyn => exact fun _ => one 4 [] (by simp)
 | ref nm h => exact fun hn => by rw [Nm] at hn; exact one 8 nm hn.1
 | rcd ns l hs hl hn h ih =>
  intro hm
  rw [Nm] at hm
  have h1 := hL fun t ht => ih t ht (nN.1 hm.2.2 t ht)
  have h2 := hN hm.2.1
  rw [mg, wtT, Nat.mul_add, List.length_nil]
  rw [hl] at h2
  omega
 | fn a b ha hb iha ihb =>
  intro hm
  rw [Nm] at hm
  have h1 := hL (l := [a, b]) fun t ht => by
   simp only [List.mem_cons, List.not_mem_nil, or_false] at ht
   rcases ht with rfl | rfl
   ·exact iha (nN.1 hm.2.2 _ (by simp))
   ·exact ihb (nN.1 hm.2.2 _ (by simp))
  rw [mg, wtT, Nat.mul_add]
  simp only [List.length_nil, List.map_nil, List.sum_nil]
  omega
 | uni l h0 h ih =>
  intro hm
  rw [Nm] at hm
  have h1 := hL fun t ht => ih t ht (nN.1 hm.2.2 t ht)
  rw [mg, wtT, Nat.mul_add]
  simp only [List.length_nil, List.map_nil, List.sum_nil]
  omega
theorem FU (hb : ∀ p ∈ by_, NT p.2) {t z : TA} (h : Spr by_ t z) : NT t → z = dQ ∨ z ∈ dP t ∨ z ∈ by_.flatMap fun p => iJ p.2 := by
 have hp : ∀ {t : TA}, t.kind ≠ 7 → dP t = [t] := fun h => if_neg h
 have hs : ∀ {t x : TA}, NT t → x ∈ dP t → x ∈ iJ t := fun {t x} hn h => by
  obtain ⟨k, nm, ns, l⟩ := t
  unfold dP at h
  split at h
  ·exact ((xV _ (.mk k nm ns l) (Nat.le_refl _)).1 _ (rA _)).2 x h
  ·rw [List.mem_singleton] at h; subst h; exact rA _
 induction h with
 | self t h7 h8 => exact fun _ => .inr (.inl (by rw [hp h7]; simp))
 | part nm ns l x y hx h ih =>
  intro hn
  have hxn := hn.parts x hx
  have hx7 : x.kind ≠ 7 := by
   cases hn with
   | uni l h2 h h7 hs => exact (h7 x hx).1
  rcases ih hxn with h | h | h
  ·exact .inl h
  ·rw [hp hx7, List.mem_singleton] at h
   subst h
   exact .inr (.inl (by rw [show dP (.mk 7 nm ns l) = l from if_pos rfl]; exact hx))
  ·exact .inr (.inr h)
 | emp nm ns l h => exact fun _ => .inl rfl
 | ref nm ns l y he h ih =>
  intro _
  obtain ⟨h1, p, hp1, h2⟩ := yD hb he
  rcases ih h1 with h | h | h
  ·exact .inl h
  ·rw [h2] at h h1
   exact .inr (.inr (List.mem_flatMap.2 ⟨p, hp1, hs h1 h⟩))
  ·exact .inr (.inr h)
theorem DX : ∀ {l B : List TA}, l.Nodup → (∀ x ∈ l, x ∈ B) → wtL l ≤ wtL B
 | [], B, _, _ => by simp [wtL]
 | t :: l, B, hn, h => by
  open Classical in
  rw [List.nodup_cons] at hn
  have hp := List.perm_cons_erase (h t (by simp))
  have e : wtL B = wtL (t :: B.erase t) := by rw [sG, sG]; exact (hp.map _).sum_nat
  rw [e, wtL, wtL]
  have := DX (l := l) (B := B.erase t) hn.2 fun x hx => by
   refine (List.mem_erase_of_ne fun hxt => ?_).2 (h x (by simp [hx]))
   subst hxt
   exact hn.1 hx
  omega
open Classical in
theorem MH {l B : List TA} (hn : ∀ t ∈ l, NT t ∧ t.kind ≠ 7) (h0 : l ≠ []) (hB : ∀ t ∈ l, t ∈ B) (hw : wtL B ≤ 2 ^ 30 - 100) : wtT (kP l) ≤ 2 ^ 30 := by
 rw [join_eq hn h0]
 have nd : (fP l).Nodup := (jE l).imp fun h e => by rw [e] at h; exact List.lt_irrefl _ h
 have hs := DX nd fun x hx => hB x (kr hx)
 split
 ·decide
 ·generalize fP l = m at hs
  match m with
  | [] => decide
  | [t] => simp only [l9]; rw [wtL, wtL] at hs; omega
  | t :: u :: m => simp only [l9]; rw [wtT]; simp only [List.length_nil, List.map_nil, List.sum_nil]; omega
theorem lY.FZ {T : Tab} (W : lY by_ e C) (F : tY T) (Jo : T.has 145 Np) {t : TA} (ht : GC' C t) {B : List TA} (hB : ∀ z, Spr by_ (aM t) z → z ∈ B) (hw : wtL B ≤ 2 ^ 30 - 100) : EK T.L 145 [t.av] e (.str (xZ e t)) := by
 have h1 := W.PD F ht
 have hW := W.wh ht.2.2
 have h2 : Pure T.L 150 [(wT e t).av] (.str (xZ e t)) := WX.Md F.toxL (MI hW.1 hW.2) (MH hW.1 hW.2 (fun x hx => hB x ((kY W.ok W.nodup _ _).1 hx)) hw)
 generalize xZ e t = s at h2 ⊢
 generalize wT e t = u at h1 h2
 obtain ⟨uk, un, us, ul⟩ := u
 obtain ⟨k, nm, ns, l⟩ := t
 refine EK.of 0 (.str _) (aG Jo (by simp [Np]) ?_)
 conv => whnf
 refine h1.to (dh (aY _ _)) (aY _ _) _ rfl ?_
 conv => whnf
 refine h2.to ?_
 conv => whnf
 exact ⟨_, _, rfl, Weak.refl _, rfl⟩
theorem Qo (l : List (Bytes × TA)) : (iL l).length ≤ l.length ∧ ((iL l).map fun p => szT p.2).sum ≤ jh l := by
 have key : ∀ (l B : List (Bytes × TA)), (l.foldl nZ B).length ≤ B.length + l.length ∧ ((l.foldl nZ B).map fun p => szT p.2).sum ≤ (B.map fun p => szT p.2).sum + jh l := fun l => by
  induction l with
  | nil => intro B; simp [jh]
  | cons q l ih =>
   intro B
   obtain ⟨h1, h2⟩ := ih (nZ B q)
   have h3 : (nZ B q).length ≤ B.length + 1 ∧ ((nZ B q).map fun p => szT p.2).sum ≤ (B.map fun p => szT p.2).sum + szT q.2 := by
    unfold nZ
    have := Hr q.2
    split
    ·omega
    ·rw [List.length_append, List.map_append, List.sum_append_nat]; simp; omega
   unfold jh at h2 ⊢
   rw [List.foldl_cons, List.length_cons, List.map_cons, List.sum_cons]
   omega
 have := key l []
 unfold iL
 simpa using this
theorem Vn {m : Nat} (h : ∀ p ∈ by_, wtT p.2 ≤ m) (hs : (by_.map fun p => szT p.2).sum ≤ 60) : wtL (by_.flatMap fun p => iJ p.2) ≤ 60 * (m + 8) := by
 have h1 := VP (l := by_.flatMap fun p => iJ p.2) (m := m) fun t ht => by
  obtain ⟨p, hp, ht⟩ := List.mem_flatMap.1 ht
  exact Nat.le_trans ((xV _ p.2 (Nat.le_refl _)).1 t ht).1 (h p hp)
 have h2 : (by_.flatMap fun p => iJ p.2).length = (by_.map fun p => szT p.2).sum := by
  clear h hs h1
  induction by_ with
  | nil => rfl
  | cons p l ih => rw [List.flatMap_cons, List.length_append, List.map_cons, List.sum_cons, ih, Hu]
 rw [h2] at h1
 exact Nat.le_trans h1 (Nat.mul_le_mul_right _ hs)
end Go.Ag
/- Package types: the library's CompactFunc of keyed types, walked. -/
namespace Go.Ag
open Go
variable {T : Tab} {L : Lnk}
def zkv : au := .agg [.int .i64 0, .str [], .lst [] .nil, .lst [] .nil, .str []]
structure DStep (xs A : List (TA × Bytes)) (p m : Nat) : Prop where
 len : A.length = xs.length
 front : A.take m = fJ (xs.take p)
 Wh : m = (fJ (xs.take p)).length
 pos : 1 ≤ p
 lt : m < p
 back : A.drop (p - 1) = xs.drop (p - 1)
theorem DStep.at {xs A : List (TA × Bytes)} {p m : Nat} (h : DStep xs A p m) {j : Nat} (h1 : p - 1 ≤ j) : A[j]? = xs[j]? := by
 have e1 : A[j]? = (A.drop (p - 1))[j - (p - 1)]? := by rw [List.getElem?_drop]; congr 1; omega
 have e2 : xs[j]? = (xs.drop (p - 1))[j - (p - 1)]? := by rw [List.getElem?_drop]; congr 1; omega
 rw [e1, e2, h.back]
theorem DStep.skip {xs A : List (TA × Bytes)} {p m : Nat} (h : DStep xs A p m) (hp : p < xs.length) (he : (xs[p].2 == (xs[p - 1]'(by omega)).2) = true) : DStep xs A (p + 1) m := by
 have h1 := vV xs p h.pos hp
 rw [if_pos he, List.append_nil] at h1
 refine ⟨h.len, by rw [h1]; exact h.front, by rw [h1]; exact h.Wh, by omega, by have := h.lt; omega, ?_⟩
 have e1 : A.drop p = (A.drop (p - 1)).drop 1 := by rw [List.drop_drop]; congr 1; have := h.pos; omega
 have e2 : xs.drop p = (xs.drop (p - 1)).drop 1 := by rw [List.drop_drop]; congr 1; have := h.pos; omega
 show A.drop p = xs.drop p
 rw [e1, e2, h.back]
theorem DStep.take {xs A : List (TA × Bytes)} {p m : Nat} (h : DStep xs A p m) (hp : p < xs.length) (he : (xs[p].2 == (xs[p - 1]'(by omega)).2) = false) : DStep xs (A.take m ++ [xs[p]] ++ A.drop (m + 1)) (p + 1) (m + 1) := by
 have h1 := vV xs p h.pos hp
 rw [if_neg (by rw [he]; simp)] at h1
 have hlt := h.lt
 have hlen := h.len
 have hml : (A.take m).length = m := by rw [List.length_take]; omega
 have e0 : (A.take m ++ [xs[p]]).length = m + 1 := by simp [hml]
 refine ⟨by simp; omega, ?_, by rw [h1, List.length_append, ← h.Wh]; rfl, by omega, by omega, ?_⟩
 ·rw [List.take_append_of_le_length (by omega), List.take_of_length_le (by omega), h1, h.front]
 ·show List.drop p _ = List.drop p xs
  rw [List.drop_append, List.drop_of_length_le (by omega : (A.take m ++ [xs[p]]).length ≤ p), List.nil_append, e0, List.drop_drop]
  have e1 : A.drop p = (A.drop (p - 1)).drop 1 := by rw [List.drop_drop]; congr 1; have := h.pos; omega
  have e2 : xs.drop p = (xs.drop (p - 1)).drop 1 := by rw [List.drop_drop]; congr 1; have := h.pos; omega
  rw [show m + 1 + (p - (m + 1)) = p from by omega, e1, e2, h.back]
theorem T9 (n : Nat) : Low n zkv := .agg _ (kM.at ⟨.int _ _, .str _, .lst _ _ trivial (by simp), .lst _ _ trivial (by simp), .str _, trivial⟩)
theorem V8 (u : TA × Bytes) : okB 5 (au.agg (kv u).cells) = true := by
 obtain ⟨⟨k, nm, ns, l⟩, s⟩ := u
 rfl
theorem WC {xs A : List (TA × Bytes)} {n t m r : Nat} (hr : m + (r + 1) = n) (hA : A.length = n) (hf : A.take m = fJ xs) :
  GL 5 (.agg [.int .i64 0, .str [], .lst [] .nil, .lst [] .nil, .str []]) [.arr n (kvs A) t] (.vec 0 n 5 (0 + m) (r + 1)) = some [.arr n (kvs (fJ xs) ++ List.replicate (r + 1) zkv) t] := by
 rw [Nat.zero_add, GL]
 simp only [List.getElem?_cons_zero]
 rw [if_pos ⟨trivial, trivial, by rw [jr]; omega, by rw [List.all_eq_true]; exact fun y hy => by simpa using uS A y hy⟩]
 have e1 : (kvs A).take m = kvs (fJ xs) := by rw [← hf]; simp [kvs, List.map_take]
 have e2 : (kvs A).drop (m + (r + 1)) = [] := List.drop_of_length_le (by rw [jr]; omega)
 rw [e1, e2, List.append_nil]
 rfl
theorem sub1 {k : Nat} (h1 : 1 ≤ k) (h : k < 9223372036854775808) : IntKind.i64.wrap ((k : Int) - 1) = ((k - 1 : Nat) : Int) := by
 rw [IntWalk.i64_in _ (by omega)]; omega
theorem GJ (F : y9 T) (xs : List (TA × Bytes)) (n t : Nat) (hn : n = xs.length) (hne : xs ≠ []) (hl : n ≤ 2 ^ 40) :
  aC T.L 255 [.vec 0 n 5 0 n, .fn (.func 256) [] []] [.arr n (kvs xs) t] fun r H' => r = .ret (.vec 0 n 5 0 (fJ xs).length) ∧ ∃ rest J : List _, (∀ x ∈ rest, Low 0 x ∧ x.cells.length = 5) ∧ (fJ xs).length + rest.length = n ∧ H' = [.arr n (kvs (fJ xs) ++ rest) t] ++ J := by
 have heq := Q9 F.Gy
 have hpos : 0 < xs.length := List.length_pos_iff.2 hne
 have hk5 := uS xs
 refine aG F.QS (by simp [Nf]) ?_
 conv => whnf
 have e2 : ((n : Int) < 2) = (n < 2) := by apply propext; omega
 cases hn2 : decide ((n : Int) < 2)
 ·have hn2' : 2 ≤ n := by simp at hn2; omega
  conv => whnf
  intro I hI hG
  have key : ∀ (d i : Nat) (e : Env), n - i = d → 1 ≤ i → i ≤ n → fJ (xs.take i) = xs.take i → I (gQ e [(0, .vec 0 n 5 0 n), (1, .fn (.func 256) [] []), (5, .int .i64 i)]) [.arr n (kvs xs) t] := by
   intro d
   induction d with
   | zero =>
    intro i e hd h1 hi Lj
    apply hI
    conv => whnf
    rw [dB (by omega)]
    conv => whnf
    have : xs.take i = xs := List.take_of_length_le (by omega)
    rw [this] at Lj
    refine ⟨?_, [], [], (by simp), ?_, ?_⟩
    ·rw [Lj, ← hn]; rfl
    ·rw [Lj, hn]; rfl
    ·rw [Lj, List.append_nil, List.append_nil]
   | succ d ihd =>
    intro i e hd h1 hi Lj
    have hin : i < n := by omega
    have hix : i < xs.length := by omega
    apply hI
    conv => whnf
    rw [dV hin]
    conv => whnf
    refine ⟨⟨Int.natCast_nonneg _, by omega, rfl⟩, ?_⟩
    conv => whnf
    rw [sub1 h1 (by omega)]
    refine ⟨⟨Int.natCast_nonneg _, by omega, rfl⟩, ?_⟩
    conv => whnf
    have ha : (0 + ((i : Nat) : Int).toNat) * 5 = i * 5 := by simp
    have hb : (0 + ((i - 1 : Nat) : Int).toNat) * 5 = (i - 1) * 5 := by simp
    rw [ha, hb]
    have hgi : (kvs xs)[i]? = some (kv xs[i]) := by simp [kvs, List.getElem?_map, List.getElem?_eq_getElem hix]
    have hgj : (kvs xs)[i - 1]? = some (kv (xs[i - 1]'(by omega))) := by simp [kvs, List.getElem?_map, List.getElem?_eq_getElem (show i - 1 < xs.length by omega)]
    have hsn : (xs[i].2 == (xs[i - 1]'(by omega)).2) = false → fJ (xs.take (i + 1)) = xs.take (i + 1) := fun he => by
     have h2 := vV xs i h1 hix
     rw [if_neg (by rw [he]; simp), Lj] at h2
     rw [h2, List.take_succ_eq_append_getElem hix]
    have hq := heq xs[i] (xs[i - 1]'(by omega))
    have hsk : (xs[i].2 == (xs[i - 1]'(by omega)).2) = true → DStep xs xs (i + 1) i := fun he => by
     have h2 := vV xs i h1 hix
     rw [if_pos he, List.append_nil, Lj] at h2
     exact ⟨rfl, h2.symm, by rw [h2, List.length_take]; omega, by omega, by omega, rfl⟩
    generalize xs[i] = u at hgi hsn hq hsk
    generalize xs[i - 1]'(by omega) = w at hgj hsn hq hsk
    refine mX (vN rfl hk5 hgi) ?_
    conv => whnf
    refine mX (vN rfl hk5 hgj) ?_
    conv => whnf
    refine hq.to ?_
    conv => whnf
    have hi1 : i + 1 < 9223372036854775808 := by omega
    cases huw : (u.2 == w.2)
    ·conv => whnf
     exact hG.keep [(0, .vec 0 n 5 0 n), (1, .fn (.func 256) [] []), (5, .int .i64 (i + 1 : Nat))] [.arr n (kvs xs) t] (Nat.le_refl 1) rfl ⟨rfl, rfl, add1 hi1, trivial⟩
      ⟨.vec _ _ _ _ _ (by decide : 0 < 1), .fn _ _ _ gN gN, .int _ _, trivial⟩ ⟨kI 1 xs, trivial⟩ (ihd (i + 1) _ (by omega) (by omega) (by omega) (hsn huw))
    ·have hst := hsk huw
     clear hsk hsn hq ihd hgi hgj ha hb huw
     conv => whnf
     refine ⟨⟨by omega, by omega, by omega, rfl⟩, ?_⟩
     conv => whnf
     rw [Int.toNat_natCast]
     intro J hJ hGJ
     have keyI : ∀ (d k m : Nat) (A : List (TA × Bytes)) (e : Env), n - (i + k) = d → 1 ≤ k → i + k ≤ n → DStep xs A (i + k) m → J (gQ e [(0, .vec 0 n 5 0 n), (1, .fn (.func 256) [] []), (5, .int .i64 m), (6, .vec 0 n 5 i (n - i)), (7, .int .i64 k)]) [.arr n (kvs A) t] := by
      intro d
      induction d with
      | zero =>
       intro k m A e hd hk1 hk hst
       apply hJ
       conv => whnf
       rw [dB (by omega)]
       conv => whnf
       have hmn : m < n := by have := hst.lt; omega
       obtain ⟨r, hr⟩ : ∃ r, n - m = r + 1 := ⟨n - m - 1, by omega⟩
       refine ⟨⟨by omega, by omega, by omega, rfl⟩, ?_⟩
       conv => whnf
       rw [Int.toNat_natCast, hr]
       conv => whnf
       have hend : i + k = n := by omega
       rw [hend] at hst
       have hxt : xs.take n = xs := List.take_of_length_le (by omega)
       have hfr := hst.front
       have hm := hst.Wh
       rw [hxt] at hfr hm
       rw [WC (by omega) (by rw [hst.len]; omega) hfr]
       conv => whnf
       refine ⟨⟨by omega, by omega, by omega, rfl⟩, ?_⟩
       conv => whnf
       refine ⟨by rw [← hm]; rfl, List.replicate (r + 1) zkv, [], fun x hx => ?_, by rw [List.length_replicate, ← hm]; omega, by rw [List.append_nil]⟩
       rw [List.eq_of_mem_replicate hx]
       exact ⟨T9 0, rfl⟩
      | succ d ihd =>
       intro k m A e hd hk1 hk hst
       apply hJ
       conv => whnf
       rw [dV (by omega)]
       conv => whnf
       have hpx : i + k < xs.length := by omega
       have hA5 := uS A
       have hAl := hst.len
       have hlt := hst.lt
       refine ⟨⟨Int.natCast_nonneg _, by omega, rfl⟩, ?_⟩
       conv => whnf
       rw [sub1 hk1 (by omega)]
       refine ⟨⟨Int.natCast_nonneg _, by omega, rfl⟩, ?_⟩
       conv => whnf
       have ha : (i + ((k : Nat) : Int).toNat) * 5 = (i + k) * 5 := by simp
       have hb : (i + ((k - 1 : Nat) : Int).toNat) * 5 = (i + k - 1) * 5 := by rw [Int.toNat_natCast]; congr 1; omega
       rw [ha, hb]
       have hgi : (kvs A)[i + k]? = some (kv xs[i + k]) := by simp [kvs, List.getElem?_map, hst.at (j := i + k) (by omega), List.getElem?_eq_getElem hpx]
       have hgj : (kvs A)[i + k - 1]? = some (kv (xs[i + k - 1]'(by omega))) := by simp [kvs, List.getElem?_map, hst.at (j := i + k - 1) (by omega), List.getElem?_eq_getElem (show i + k - 1 < xs.length by omega)]
       have hq := heq xs[i + k] (xs[i + k - 1]'(by omega))
       have Jc := hst.skip hpx
       have htake := hst.take hpx
       generalize xs[i + k] = u at hgi hq Jc htake
       generalize xs[i + k - 1]'(by omega) = w at hgj hq Jc htake
       refine mX (vN rfl hA5 hgi) ?_
       conv => whnf
       refine mX (vN rfl hA5 hgj) ?_
       conv => whnf
       refine hq.to ?_
       conv => whnf
       have hk1' : k + 1 < 9223372036854775808 := by omega
       have hm1' : m + 1 < 9223372036854775808 := by omega
       cases huw : (u.2 == w.2)
       ·have hst' := htake huw
        conv => whnf
        refine ⟨⟨Int.natCast_nonneg _, by omega, rfl⟩, ?_⟩
        conv => whnf
        rw [ha]
        refine mX (vN rfl hA5 hgi) ?_
        conv => whnf
        refine ⟨⟨Int.natCast_nonneg _, by omega, rfl⟩, ?_⟩
        conv => whnf
        rw [V8 u, show (0 + ((m : Nat) : Int).toNat) * 5 = m * 5 from by simp, PX (H := [.arr n (kvs A) t]) (x := .agg (kv u).cells) (i := m) rfl hA5 (EI u) (by rw [jr]; omega)]
        rw [show (kvs A).take m ++ [au.agg (kv u).cells] ++ (kvs A).drop (m + 1) = kvs (A.take m ++ [u] ++ A.drop (m + 1)) from by simp [kvs, List.map_take, List.map_drop]; rfl]
        generalize A.take m ++ [u] ++ A.drop (m + 1) = A' at hst' ⊢
        conv => whnf
        exact hGJ.keep [(0, .vec 0 n 5 0 n), (1, .fn (.func 256) [] []), (5, .int .i64 (m + 1 : Nat)), (6, .vec 0 n 5 i (n - i)), (7, .int .i64 (k + 1 : Nat))] [.arr n (kvs A') t] (Nat.le_refl 1) rfl ⟨rfl, rfl, add1 hm1', rfl, add1 hk1', trivial⟩
         ⟨.vec _ _ _ _ _ (by decide : 0 < 1), .fn _ _ _ gN gN, .int _ _, .vec _ _ _ _ _ (by decide : 0 < 1), .int _ _, trivial⟩ ⟨kI 1 A', trivial⟩ (ihd (k + 1) (m + 1) A' _ (by omega) (by omega) (by omega) hst')
       ·have hst' := Jc huw
        conv => whnf
        exact hGJ.keep [(0, .vec 0 n 5 0 n), (1, .fn (.func 256) [] []), (5, .int .i64 m), (6, .vec 0 n 5 i (n - i)), (7, .int .i64 (k + 1 : Nat))] [.arr n (kvs A) t] (Nat.le_refl 1) rfl ⟨rfl, rfl, rfl, rfl, add1 hk1', trivial⟩
         ⟨.vec _ _ _ _ _ (by decide : 0 < 1), .fn _ _ _ gN gN, .int _ _, .vec _ _ _ _ _ (by decide : 0 < 1), .int _ _, trivial⟩ ⟨kI 1 A, trivial⟩ (ihd (k + 1) m A _ (by omega) (by omega) (by omega) hst')
     exact inv_of [(0, .vec 0 n 5 0 n), (1, .fn (.func 256) [] []), (5, .int .i64 i), (6, .vec 0 n 5 i (n - i)), (7, .int .i64 (1 : Nat))] ⟨rfl, rfl, rfl, by rw [Nat.zero_add] <;> rfl, rfl, trivial⟩ (keyI _ 1 i xs _ rfl (Nat.le_refl 1) (by omega) hst)
  exact inv_of [(0, .vec 0 n 5 0 n), (1, .fn (.func 256) [] []), (5, .int .i64 (1 : Nat))] ⟨rfl, rfl, rfl, trivial⟩ (key _ 1 _ rfl (Nat.le_refl 1) (by omega) (by cases xs with
   | nil => cases hne rfl
   | cons x l => rfl))
 ·have hn1 : n = 1 := by simp at hn2; omega
  conv => whnf
  obtain ⟨x, rfl⟩ : ∃ x, xs = [x] := List.length_eq_one_iff.1 (by omega)
  refine ⟨by rw [hn1]; rfl, [], [], by simp, by rw [hn1]; rfl, by rw [List.append_nil, List.append_nil]; rfl⟩
theorem DR (F : y9 T) (xs : List (TA × Bytes)) (n t : Nat) (hn : n = xs.length) (hne : xs ≠ []) (hl : n ≤ 2 ^ 40) :
  aC T.L 255 [.vec 0 n 5 0 n, .fn (.func 256) [] []] [.arr n (kvs xs) t] fun r H' => r = .ret (.vec 0 n 5 0 (fJ xs).length) ∧ ∃ rest : List _, (∀ x ∈ rest, Low 0 x ∧ x.cells.length = 5) ∧ (fJ xs).length + rest.length = n ∧ H' = [.arr n (kvs (fJ xs) ++ rest) t] := by
 refine (aC.gcR (Q := fun r H' => r = .ret (.vec 0 n 5 0 (fJ xs).length) ∧ ∃ rest : List _, (∀ x ∈ rest, Low 0 x ∧ x.cells.length = 5) ∧ (fJ xs).length + rest.length = n ∧ H' = [.arr n (kvs (fJ xs) ++ rest) t]) ((GJ F xs n t hn hne hl).mono fun r' H' ⟨e1, rest, J, hr, hlen, e2⟩ => ⟨.ret (.vec 0 n 5 0 (fJ xs).length), _, [.arr n (kvs (fJ xs) ++ rest) t], J, e2, by rw [e1]; exact Weak.refl _, .vec _ _ _ _ _ (by decide : 0 < 1), rfl, rfl, fun i o o' h1 h2 => by rw [h1] at h2; cases h2; exact bV.refl o, gK.at ⟨fun x hx => ?_, trivial⟩, rfl, rest, hr, hlen, rfl⟩)).mono fun r H' ⟨_, e1, q⟩ => ⟨e1, q⟩
 rcases List.mem_append.1 hx with hx | hx
 ·exact kI 1 _ x hx
 ·exact (hr x hx).1.mono (Nat.zero_le 1)
theorem GK (F : y9 T) (xs : List (TA × Bytes)) (n id t : Nat) (H : Heap) (hH : H[id]? = some (.arr n (kvs xs) t)) (hn : n = xs.length) (hne : xs ≠ []) (hl : n ≤ 2 ^ 40) :
  aC T.L 255 [.vec id n 5 0 n, .fn (.func 256) [] []] H fun r H' => r = .ret (.vec id n 5 0 (fJ xs).length) ∧ ∃ rest : List au, (∀ x ∈ rest, Low 0 x ∧ x.cells.length = 5) ∧ (fJ xs).length + rest.length = n ∧ H' = H.set id (.arr n (kvs (fJ xs) ++ rest) t) := by
 have q0 : jk (nameOf [id] H.length) (.arr n (kvs xs) t) = .arr n (kvs xs) t := gD (show bI 0 (.arr n (kvs xs) t) from kI 0 xs)
 have hp : Part H [id] [.arr n (kvs xs) t] := by
  refine ⟨by simp, rfl, fun k i o hk ho => ?_⟩
  match k, hk, ho with
  | 0, hk, ho => cases hk; cases ho; rw [q0]; exact hH
  | k + 1, hk, ho => cases hk
 have hf := aC.nk (DR F xs n t hn hne hl) [id] hp (.inr fun r H' ⟨_, rest, _, _, e⟩ => by rw [e]; exact Nat.le_refl 1)
 refine hf.mono fun r H' ⟨r1, H1', ⟨e1, rest, hr, hlen, e2⟩, _, e3, e4⟩ => ?_
 subst e1 e2
 refine ⟨e3, rest, hr, hlen, ?_⟩
 have q1 : jk (nameOf [id] H.length) (.arr n (kvs (fJ xs) ++ rest) t) = .arr n (kvs (fJ xs) ++ rest) t := gD (show bI 0 (.arr n (kvs (fJ xs) ++ rest) t) from fun x hx => by
  rcases List.mem_append.1 hx with hx | hx
  ·exact kI 0 _ x hx
  ·exact (hr x hx).1)
 rw [e4]
 simp only [List.length_cons, List.length_nil, List.take_succ_cons, List.take_zero, List.drop_succ_cons, List.drop_zero, List.map_cons, List.map_nil, List.append_nil, lV]
 exact congrArg (H.set id) q1
theorem DT (F : y9 T) (H : Heap) : aC T.L 255 [.lst [] .nil, .fn (.func 256) [] []] H fun r H' => r = .ret (.lst [] .nil) ∧ H' = H := by
 have h0 : Pure T.L 255 [.lst [] .nil, .fn (.func 256) [] []] (.lst [] .nil) := by
  refine Pure.run (kM.at ⟨.lst _ _ trivial (by simp), .fn _ _ _ gN gN, trivial⟩) (.lst _ _ trivial (by simp)) (aG F.QS (by simp [Nf]) ?_)
  conv => whnf
  exact aH (Weak.refl _)
 exact h0 H
end Go.Ag
/- Unions: their heads are those of their parts together; Made, wherever it is called. -/
namespace Go.Ag
open Go
variable {T : Tab} {L : Lnk} {by_ : List (Bytes × TA)} {e : fV} {C : List TA}
def uT (x y : TA) : TA := .mk 7 [] [] [x, y]
theorem Jp {x y : TA} (hx : GT x) (hy : GT y) : GT (uT x y) := .uni _ (by simp) (Lm hx hy)
theorem lY.ER (W : lY by_ e C) {t : TA} (ht : GC' C t) : (∀ y ∈ hdE e t, NT y ∧ y.kind ≠ 7) ∧ hdE e t ≠ [] := by
 obtain ⟨n, h1, h2, h3⟩ := W.some _ ht.2.2
 refine ⟨fun y hy => ⟨(W.Li ht hy).1, ?_⟩, ?_⟩
 ·rcases W.head ht hy with rfl | h
  ·decide
  ·exact h.2.1
 ·unfold hdE qL
  split
  ·simp
  ·exact rJ h2
theorem D6 (W : lY by_ e C) {x y : TA} (hx : GC' C x) (hy : GC' C y) (hu : GC' C (uT x y)) : wT e (uT x y) = kP (hdE e x ++ hdE e y) := by
 have hw := W.wh hu.2.2
 have nx := W.ER hx
 have ny := W.ER hy
 have hj := PZ (by_ := by_) (Lm hx.1 hy.1) (by simp)
 have h2 : ∀ {P : TA → Prop}, (∃ t ∈ [x, y], P t) ↔ P x ∨ P y := fun {P} => by simp
 rw [h2] at hj
 have hdx : dQ ∈ hdE e x ↔ Spr by_ (aM x) dQ := by rw [W.zA hx]; exact ⟨fun h => h.elim (fun h => h.1) fun h => h.2, fun h => .inl ⟨h, rfl⟩⟩
 have hdy : dQ ∈ hdE e y ↔ Spr by_ (aM y) dQ := by rw [W.zA hy]; exact ⟨fun h => h.elim (fun h => h.1) fun h => h.2, fun h => .inl ⟨h, rfl⟩⟩
 refine CO hw.1 (fun t ht => ?_) hw.2 (by simp [nx.2]) ?_ fun hn z => ?_
 ·rcases List.mem_append.1 ht with ht | ht
  ·exact nx.1 t ht
  ·exact ny.1 t ht
 ·rw [kY W.ok W.nodup, List.mem_append, hdx, hdy]
  exact hj.1
 ·rw [kY W.ok W.nodup] at hn
  have hn2 : ¬ (Spr by_ (aM x) dQ ∨ Spr by_ (aM y) dQ) := fun h => hn (hj.1.2 h)
  rw [kY W.ok W.nodup, List.mem_append, W.zA hx, W.zA hy]
  have := hj.2 hn2 z
  rw [h2] at this
  show Spr by_ (aM (.mk 7 [] [] [x, y])) z ↔ _
  rw [this]
  simp only [not_or] at hn2
  simp [hn2.1, hn2.2]
theorem PL (W : lY by_ e C) {x y : TA} (hx : GC' C x) (hy : GC' C y) : kP (hdE e y ++ hdE e x) = kP (hdE e x ++ hdE e y) := by
 have nx := W.ER hx
 have ny := W.ER hy
 have hm : ∀ z, z ∈ hdE e y ++ hdE e x ↔ z ∈ hdE e x ++ hdE e y := fun z => by rw [List.mem_append, List.mem_append, or_comm]
 have ht : ∀ t ∈ hdE e x ++ hdE e y, NT t ∧ t.kind ≠ 7 := fun t ht => (List.mem_append.1 ht).elim (nx.1 t) (ny.1 t)
 exact CO (fun t h => ht t ((hm t).1 h)) ht (by simp [ny.2]) (by simp [nx.2]) (hm dQ) fun _ => hm
theorem vT {x : TA} (hx : GT x) : aM (uT x dQ) = dQ := by
 unfold uT
 rw [aM, if_pos rfl, mR]
 have hN : ∀ t ∈ dx [x, dQ], NT t := fun t ht => by
  rw [eB] at ht
  obtain ⟨u, hu, rfl⟩ := List.mem_map.1 ht
  exact mF (Lm hx .dyn u hu)
 have hf := rZ hN
 have hm : dQ ∈ aP (dx [x, dQ]) := o7.2 ⟨dQ, by rw [eB]; simp only [List.map_cons, List.map_nil]; rw [show aM dQ = dQ from nId4]; simp, by unfold dP; rw [if_neg (by decide)]; simp⟩
 rw [Jy hf, if_pos hm]
theorem O5 (W : lY by_ e C) {t : TA} (ht : aM t = dQ) (hc : aM t ∈ C) : wT e t = dQ := by
 have hw := W.wh hc
 open Classical in
 rw [wT, join_eq hw.1 hw.2, if_pos ((kY W.ok W.nodup _ _).2 (by rw [ht]; exact .self _ (by decide) (by decide)))]
theorem VA (F : y8 T) (src : Bytes) (hs : src.length ≤ 600) (H : Heap) : aC T.L 147 [.str src] H fun r H' => ∃ e o0 o1, lU (iL (fZ src)) e ∧ r = .ret (.tup [.ptr (H.length + 4) 0, .lst (gJ (fZ src)) .none, .bool (decide ((fZ src).length ≤ 8))]) ∧
  H' = H ++ [o0, o1, .map (dD e.by_ 0) e.by_.length, .map (iO e.empty 0) e.empty.length, .cells [.map (H.length + 2), .map (H.length + 3)] 234] := by
 have hp : Part H [] [] := ⟨by simp, rfl, fun k i o hk => by cases hk⟩
 have hf := aC.nk (FB F src hs) [] hp (.inr fun r H' _ => Nat.zero_le _)
 refine hf.mono fun r H' ⟨r1, H1, ⟨e, o0, o1, h1, l0, l1, h2, h3⟩, _, h4, h5⟩ => ⟨e, o0, o1, h1, ?_, ?_⟩
 ·rw [h4, h2]
  simp only [zo]
  congr 1
  simp only [ren, iq]
  rw [jq (Nat.zero_le _)]
  congr 2
  have := mD (ρ := nameOf [] H.length) (show Low 0 (au.lst (gJ (fZ src)) .none) from .lst _ _ trivial (rU 0 _))
  simp only [ren] at this
  rw [this]
 ·rw [h5, h3]
  simp only [List.length_nil, List.take_zero, List.map_nil, List.drop_zero, lV]
  congr 1
  simp only [List.map_cons, List.map_nil]
  rw [gD l0, gD l1, gD (show bI 0 (.map (dD e.by_ 0) e.by_.length) from gI 0 _ _), gD (show bI 0 (.map (iO e.empty 0) e.empty.length) from iH 0 _ _)]
  simp only [jk, iq, ren]
  rw [jq (Nat.zero_le _), jq (Nat.zero_le _)]
  rfl
theorem Px (F : y8 T) (src : Bytes) (hs : 600 < src.length) : Pure T.L 147 [.str src] (.tup [.fT, .lst [] .nil, .bool false]) := by
 refine Pure.run (dh (.str _)) (.tup _ (kM.at ⟨.fT, .lst _ _ trivial gN, .bool _, trivial⟩)) (aG F.QT (by simp [Nn]) ?_)
 have h1 : decide ((src.length : Int) > 600) = true := decide_eq_true (by omega)
 conv => whnf
 rw [h1]
 conv => whnf
 exact aH (Weak.refl _)
structure UniW (by_ : List (Bytes × TA)) (e : fV) (C B : List TA) (x y : TA) : Prop where
 W : lY by_ e C
 gx : GC' C x
 gy : GC' C y
 gu : GC' C (uT x y)
 gv : GC' C (uT y x)
 gd : GC' C (uT x dQ)
 hB : wtL B ≤ 2 ^ 30 - 100
 bx : ∀ z, Spr by_ (aM x) z → z ∈ B
 bz : ∀ z, Spr by_ (aM y) z → z ∈ B
 bu : ∀ z, Spr by_ (aM (uT x y)) z → z ∈ B
 bv : ∀ z, Spr by_ (aM (uT y x)) z → z ∈ B
 bd : ∀ z, Spr by_ (aM (uT x dQ)) z → z ∈ B
theorem uni_w {D : List (Bytes × TA)} {x y : TA} (hD : ∀ p ∈ D, kD p.1 ∧ GT p.2 ∧ wtT p.2 ≤ 2 ^ 19) (hl : D.length ≤ 8) (hz : jh D ≤ 60) (hx : GT x) (hy : GT y) (hw : wtT x + wtT y ≤ 2 ^ 27) (hs : szT x + szT y ≤ 40) (hE : lU (iL D) e) :
  ∃ C B, UniW (iL D) e C B x y := by
 obtain ⟨n1, n2⟩ := Qo D
 have hb : ∀ p ∈ iL D, NT p.2 ∧ wtT p.2 ≤ 2 ^ 19 := fun p hp => by
  obtain ⟨q, hq, rfl⟩ := EC hp
  have := kX q.2
  exact ⟨mF (hD q hq).2.1, Nat.le_trans this (hD q hq).2.2⟩
 have hsum : ((iL D).map fun p => szT p.2).sum ≤ 60 := Nat.le_trans n2 hz
 have hone : ∀ p ∈ iL D, szT p.2 ≤ 60 := fun p hp => by
  refine Nat.le_trans ?_ hsum
  have : ∀ {l : List (Bytes × TA)}, p ∈ l → szT p.2 ≤ (l.map fun p => szT p.2).sum := fun {l} h => by
   induction l with
   | nil => cases h
   | cons a l ih =>
    rw [List.map_cons, List.sum_cons]
    rcases List.mem_cons.1 h with rfl | h
    ·omega
    ·have := ih h; omega
  exact this hp
 have w2 : ∀ a b : TA, wtT (uT a b) = wtT a + wtT b + 32 := fun a b => by unfold uT; rw [wtT, wtL, wtL, wtL]; simp; omega
 have z2 : ∀ a b : TA, szT (uT a b) = szT a + szT b + 1 := fun a b => by unfold uT; rw [mg, gM, gM]; simp [szL, sj]
 have Wv : ∀ t ∈ [x, y, uT x y, uT y x, uT x dQ], GT t ∧ wtT t ≤ 2 ^ 30 ∧ szT t ≤ 100 := fun t ht => by
  have d1 : wtT dQ = 16 := rfl
  have d2 : szT dQ = 1 := rfl
  have e1 := w2 x y
  have e2 := w2 y x
  have e3 := w2 x dQ
  have s1 := z2 x y
  have s2 := z2 y x
  have s3 := z2 x dQ
  simp only [List.mem_cons, List.not_mem_nil, or_false] at ht
  rcases ht with rfl | rfl | rfl | rfl | rfl
  ·exact ⟨hx, by omega, by omega⟩
  ·exact ⟨hy, by omega, by omega⟩
  ·exact ⟨Jp hx hy, by omega, by omega⟩
  ·exact ⟨Jp hy hx, by omega, by omega⟩
  ·exact ⟨Jp hx .dyn, by omega, by omega⟩
 obtain ⟨bs, hbs⟩ : ∃ bs, bs = (iL D).map (·.2) ++ [x, y, uT x y, uT y x, uT x dQ].map aM := ⟨_, rfl⟩
 have hin : ∀ b ∈ bs, NT b ∧ wtT b ≤ 2 ^ 30 ∧ szT b ≤ 100 := fun b h => by
  rw [hbs] at h
  rcases List.mem_append.1 h with h | h
  ·obtain ⟨p, hp, rfl⟩ := List.mem_map.1 h
   have := hone p hp
   exact ⟨(hb p hp).1, Nat.le_trans (hb p hp).2 (by decide), by omega⟩
  ·obtain ⟨t, ht, rfl⟩ := List.mem_map.1 h
   obtain ⟨k1, k2, k3⟩ := Wv t ht
   exact ⟨mF k1, Nat.le_trans (kX t) k2, Nat.le_trans (Hr t) k3⟩
 have W : lY (iL D) e (bs.flatMap iJ) := Ra hE (uN D) bs (fun p hp => by rw [hbs]; exact List.mem_append_left _ (List.mem_map.2 ⟨p, hp, rfl⟩)) (fun t ht => (hin t ht).1) (fun t ht => (hin t ht).2.1) (fun t ht => (hin t ht).2.2)
  (by rw [hbs, List.length_append, List.length_map, List.length_map]; simp; omega) (by omega) hsum
 have hc : ∀ t ∈ [x, y, uT x y, uT y x, uT x dQ], GC' (bs.flatMap iJ) t := fun t ht => gc_of (Wv t ht).1 (Wv t ht).2.1 (by rw [hbs]; exact List.mem_append_right _ (List.mem_map.2 ⟨t, ht, rfl⟩))
 refine ⟨_, dQ :: ((iL D).flatMap (fun p => iJ p.2) ++ (dP (aM x) ++ (dP (aM y) ++ (dP (aM (uT x y)) ++ dP (aM (uT y x)))))), W, hc x (by simp), hc y (by simp), hc _ (by simp), hc _ (by simp), hc _ (by simp), ?_, fun z hz => ?_, fun z hz => ?_, fun z hz => ?_, fun z hz => ?_, fun z hz => ?_⟩
 ·have h1 := Vn (m := 2 ^ 19) (fun p hp => (hb p hp).2) hsum
  have h2 := ru (aM x)
  have h3 := ru (aM y)
  have h4 := kX x
  have h5 := kX y
  have h6 : wtT dQ = 16 := rfl
  have h7 := ru (aM (uT x y))
  have h8 := ru (aM (uT y x))
  have h9 := kX (uT x y)
  have h10 := kX (uT y x)
  rw [w2] at h9 h10
  rw [wtL, mQ, mQ, mQ, mQ]
  omega
 ·rcases FU (fun p hp => (hb p hp).1) hz (mF hx) with h | h | h
  ·subst h; simp
  ·simp [h]
  ·exact List.mem_cons_of_mem _ (List.mem_append_left _ h)
 ·rcases FU (fun p hp => (hb p hp).1) hz (mF hy) with h | h | h
  ·subst h; simp
  ·simp [h]
  ·exact List.mem_cons_of_mem _ (List.mem_append_left _ h)
 ·rcases FU (fun p hp => (hb p hp).1) hz (mF (Jp hx hy)) with h | h | h
  ·subst h; simp
  ·simp [h]
  ·exact List.mem_cons_of_mem _ (List.mem_append_left _ h)
 ·rcases FU (fun p hp => (hb p hp).1) hz (mF (Jp hy hx)) with h | h | h
  ·subst h; simp
  ·simp [h]
  ·exact List.mem_cons_of_mem _ (List.mem_append_left _ h)
 ·rw [vT hx, PY (by decide) (by decide)] at hz
  subst hz; simp
end Go.Ag
/- Package cupellaw08: AliasUnions. -/
namespace Go.Ag
open Go
variable {T : Tab} {L : Lnk}
structure LW (T : Tab) : Prop extends Nw T where
 QU : T.has 129 JY
theorem PK (F : LW T) (src a b : Bytes) (hs : 600 < src.length) (ha : a.length ≤ 2 ^ 31) (hb : b.length ≤ 2 ^ 31) : Pure T.L 129 [.str src, .str a, .str b] (.bool true) := by
 have xA := wu F.toGX a ha
 have xB := wu F.toGX b hb
 generalize oI a = p1 at xA
 generalize oI b = p2 at xB
 obtain ⟨⟨xk, xn, xs, xl⟩, q1⟩ := p1
 obtain ⟨⟨yk, yn, ys, yl⟩, q2⟩ := p2
 refine Pure.run (kM.at ⟨.str _, .str _, .str _, trivial⟩) (.bool _) (aG F.QU (by simp [JY]) ?_)
 conv => whnf
 refine (AQ F.toNw).to ?_
 conv => whnf
 refine (Px F.toy8 src hs).to ?_
 conv => whnf
 refine xA.to ?_
 conv => whnf
 refine xB.to ?_
 conv => whnf
 exact aH (Weak.refl _)
def Hg (o : aV) (o0 o1 : aV) (en : fV) (x y : TA) : Heap := [o, o0, o1, .map (dD en.by_ 0) en.by_.length, .map (iO en.empty 0) en.empty.length, .cells [.map 3, .map 4] 234, cK x, cK y]
theorem VE {m k : Nat} {t : TA} (h : Nm m t) (hk : m ≤ k) : Nm k t := by
 have key : ∀ (n : Nat) (t : TA), wtT t ≤ n → Nm m t → Nm k t := fun n => by
  induction n with
  | zero => intro t h; have := BD t; omega
  | succ n ih =>
   intro t hw h
   obtain ⟨tk, tn, ts, tl⟩ := t
   rw [Nm] at h ⊢
   rw [wtT] at hw
   exact ⟨by omega, fun x hx => Nat.le_trans (h.2.1 x hx) hk, nN.2 fun x hx => ih x (by have := gP hx; omega) (nN.1 h.2.2 x hx)⟩
 exact key _ t (Nat.le_refl _) h
theorem QN {by_ : List (Bytes × TA)} {e : fV} {C : List TA} (W : lY by_ e C) {t : TA} (ht : GC' C t) : (hdE e t).length ≤ 2 ^ 29 := by
 have hh := fun h hh => W.head (h := h) ht hh
 have hf := W.fin
 have : (hdE e t).Nodup := by
  unfold hdE qL
  split
  ·simp
  ·exact (jE _).imp fun h e => by rw [e] at h; exact List.lt_irrefl _ h
 have h1 : (hdE e t).length ≤ (dQ :: C).length := this.length_le_of_subset fun x hx => by
  rcases hh x hx with rfl | h
  ·simp
  ·simp [h.1]
 rw [List.length_cons] at h1
 omega
theorem zX (F : LW T) (src a b : Bytes) (ha : a.length ≤ 2 ^ 20) (hb : b.length ≤ 2 ^ 20) : Pure T.L 129 [.str src, .str a, .str b] (.bool true) := by
 rcases Nat.lt_or_ge 600 src.length with hs | hs
 ·exact PK F src a b hs (by omega) (by omega)
 have xA := wu F.toGX a (by omega)
 have xB := wu F.toGX b (by omega)
 have gA := fun h => (wV a (by omega) h).1
 have gB := fun h => (wV b (by omega) h).1
 have hq : ∀ s : Bytes, s.length ≤ 2 ^ 20 → (oI s).2 = true → wtT (oI s).1 ≤ 2 ^ 44 := fun s hs h => by
  have h1 := (wV s (by omega) h).2
  have h2 : (s.length + 82) * (s.length + 1) ≤ (2 ^ 20 + 82) * (2 ^ 20 + 1) := Nat.mul_le_mul (by omega) (by omega)
  omega
 have hwA := hq a ha
 have hwB := hq b hb
 clear hq
 have nA := Hl a (by omega)
 have nB := Hl b (by omega)
 have hD := xW src hs
 have hDl := Ab src hs
 have hM := VA F.toy8 src hs
 refine Pure.KD 1 (kM.at ⟨.str _, .str _, .str _, trivial⟩) (.bool _) ?_
 refine zV F.QU (by simp [JY]) ?_
 show fu T.L JY.body (fun i => [au.str src, .str a, .str b].getD i .undef) [.dead] _
 generalize fZ src = D at hD hDl hM
 generalize oI a = p1 at xA gA nA hwA
 generalize oI b = p2 at xB gB nB hwB
 obtain ⟨x, q1⟩ := p1
 obtain ⟨y, q2⟩ := p2
 dsimp only at xA xB gA gB nA nB hwA hwB
 refine vE (P := fun e H => ∃ en o0 o1, lU (iL D) en ∧ H = Hg .dead o0 o1 en x y ∧ iy e [(7, .ptr 5 0), (8, .lst (gJ D) .none), (9, .bool (decide (D.length ≤ 8))), (10, .ptr 6 0), (11, .bool q1), (12, .ptr 7 0), (13, .bool q2)]) 5 _ _ _ (l7 _ _ _ _ ?_) fun e1 H1 ⟨en, o0, o1, hok, eH, he⟩ => ?_
 ·obtain ⟨xk, xn, xs, xl⟩ := x
  obtain ⟨yk, yn, ys, yl⟩ := y
  conv => whnf
  refine (AQ F.toNw).to ?_
  conv => whnf
  refine (hM _).mono fun r H' ⟨en, o0, o1, hok, e1, e2⟩ => ?_
  subst e1 e2
  conv => whnf
  refine xA.to ?_
  conv => whnf
  refine xB.to ?_
  conv => whnf
  exact ⟨en, o0, o1, hok, rfl, rfl, rfl, rfl, rfl, rfl, rfl, rfl, trivial⟩
 subst eH
 refine vE (P := fun e H => D.length ≤ 8 ∧ jh D ≤ 60 ∧ q1 = true ∧ q2 = true ∧ szT x + szT y ≤ 40 ∧ H = Hg .dead o0 o1 en x y ∧ iy e [(7, .ptr 5 0), (10, .ptr 6 0), (12, .ptr 7 0)]) 1 _ _ _ (l7 _ _ _ _ ?_) fun e2 H2 ⟨hl8, hz, k1, k2, hsz, eH, he2⟩ => ?_
 ·rw [← Ba he]
  have hS := LX F.toy8 D hDl (fun p hp => Nat.le_trans (hD p hp).2.2 (by decide)) .none trivial
  have sx := fun h => Fz F.toSI x h
  have sy := fun h => Fz F.toSI y h
  have lx := fun h1 h2 => L8 (m := a.length + 2) (t := x) h1 h2
  have ly := fun h1 h2 => L8 (m := b.length + 2) (t := y) h1 h2
  have gW : q1 = true → wtT x ≤ 2 ^ 44 := fun h => (hwA h)
  have gW2 : q2 = true → wtT y ≤ 2 ^ 44 := fun h => (hwB h)
  obtain ⟨xk, xn, xs, xl⟩ := x
  obtain ⟨yk, yn, ys, yl⟩ := y
  by_cases h8 : D.length ≤ 8
  case neg =>
   rw [decide_eq_false h8]
   conv => whnf
   exact aH (Weak.refl _)
  rw [decide_eq_true h8]
  conv => whnf
  refine hS.soft ?_
  conv => whnf
  by_cases hz : jh D ≤ 60
  case neg =>
   rw [decide_eq_false hz]
   conv => whnf
   exact aH (Weak.refl _)
  rw [decide_eq_true hz]
  cases q1
  case false =>
   conv => whnf
   exact aH (Weak.refl _)
  cases q2
  case false =>
   conv => whnf
   exact aH (Weak.refl _)
  have sx := sx (gW rfl)
  have sy := sy (gW2 rfl)
  have z1 := wm _ (TA.mk xk xn xs xl) (Nat.le_refl _)
  have z2 := wm _ (TA.mk yk yn ys yl) (Nat.le_refl _)
  have y1 := gW rfl
  have y2 := gW2 rfl
  rw [show (allT (TA.mk xk xn xs xl)).length = szT (TA.mk xk xn xs xl) from rfl] at z1
  rw [show (allT (TA.mk yk yn ys yl)).length = szT (TA.mk yk yn ys yl) from rfl] at z2
  have hfin : ∀ n1 n2 : Nat, szT (.mk xk xn xs xl) = n1 → szT (.mk yk yn ys yl) = n2 → n1 + n2 ≤ 40 → szT (.mk xk xn xs xl) + szT (.mk yk yn ys yl) ≤ 40 := fun n1 n2 e1 e2 h => by rw [e1, e2]; exact h
  obtain ⟨n1, hn1⟩ : ∃ n, szT (.mk xk xn xs xl) = n := ⟨_, rfl⟩
  obtain ⟨n2, hn2⟩ : ∃ n, szT (.mk yk yn ys yl) = n := ⟨_, rfl⟩
  rw [hn1] at sx z1
  rw [hn2] at sy z2
  conv => whnf
  refine sx.soft ?_
  conv => whnf
  refine sy.soft ?_
  conv => whnf
  rw [OC (a := (n1 : Int) + n2) (by omega) (by omega)]
  by_cases hs : n1 + n2 ≤ 40
  case neg =>
   rw [show decide ((n1 : Int) + n2 > 40) = true from decide_eq_true (by omega)]
   conv => whnf
   exact aH (Weak.refl _)
  rw [show decide ((n1 : Int) + n2 > 40) = false from decide_eq_false (by omega)]
  conv => whnf
  exact ⟨h8, hz, rfl, rfl, hfin n1 n2 hn1 hn2 hs, rfl, rfl, rfl, rfl, trivial⟩
 subst k1 k2 eH
 have gx := gA rfl
 have gy := gB rfl
 have lx := L8 (m := 2 ^ 20 + 2) gx (VE nA (by omega))
 have ly := L8 (m := 2 ^ 20 + 2) gy (VE nB (by omega))
 have hxy : wtT x + wtT y ≤ 2 ^ 27 := by
  have h1 := Nat.mul_le_mul_left (2 * (2 ^ 20 + 2) + 28) hsz
  rw [Nat.mul_add] at h1
  omega
 obtain ⟨C, B, U⟩ := uni_w hD hl8 hz gx gy hxy hsz hok
 have hEn : ∀ (o : aV) (J : Heap), Nz en (Hg o o0 o1 en x y ++ J) 3 := fun o J => ⟨rfl, rfl, rfl⟩
 have hX := U.W.Je F.totY U.gx
 have hY := U.W.Je F.totY U.gy
 have nx := U.W.ER U.gx
 have ny := U.W.ER U.gy
 have bx : ∀ z ∈ hdE en x, z ∈ B ∧ wtT z ≤ 2 ^ 30 := fun z hz => by
  have h1 := (U.W.Li U.gx hz).2
  rcases (U.W.zA U.gx).1 hz with h | h
  ·exact ⟨by rw [h.2]; exact U.bd _ (by rw [vT gx]; exact .self _ (by decide) (by decide)), h1⟩
  ·exact ⟨U.bx _ h.2, h1⟩
 have by' : ∀ z ∈ hdE en y, z ∈ B ∧ wtT z ≤ 2 ^ 30 := fun z hz => by
  have h1 := (U.W.Li U.gy hz).2
  rcases (U.W.zA U.gy).1 hz with h | h
  ·exact ⟨by rw [h.2]; exact U.bd _ (by rw [vT gx]; exact .self _ (by decide) (by decide)), h1⟩
  ·exact ⟨U.bz _ h.2, h1⟩
 have lenx := QN U.W U.gx
 have leny := QN U.W U.gy
 have hm : ∀ z ∈ hdE en x ++ hdE en y, (NT z ∧ z.kind ≠ 7) ∧ z ∈ B ∧ wtT z ≤ 2 ^ 30 := fun z hz => (List.mem_append.1 hz).elim (fun h => ⟨nx.1 z h, bx z h⟩) fun h => ⟨ny.1 z h, by' z h⟩
 have hne : hdE en x ++ hdE en y ≠ [] := by simp [nx.2]
 have hJ := FC F.toxL (hdE en x ++ hdE en y) (Cj (fun z hz => (hm z hz).1.1) (by rw [List.length_append]; omega) (fun z hz => (hm z hz).2.2) (by rw [uX fun z hz => (hm z hz).1.2, List.length_append]; omega))
 have hT := WX.Md F.toxL (MI (fun z hz => (hm z hz).1) hne) (MH (fun z hz => (hm z hz).1) hne (fun z hz => (hm z hz).2.1) U.hB)
 have s1 := U.W.FZ F.totY F.Jo U.gu U.bu U.hB
 have s2 := U.W.FZ F.totY F.Jo U.gd U.bd U.hB
 have s3 := U.W.FZ F.totY F.Jo U.gv U.bv U.hB
 rw [show xZ en (uT x y) = prT (kP (hdE en x ++ hdE en y)) 0 from by unfold xZ; rw [D6 U.W U.gx U.gy U.gu]] at s1
 rw [show xZ en (uT y x) = prT (kP (hdE en x ++ hdE en y)) 0 from by unfold xZ; rw [D6 U.W U.gy U.gx U.gv, PL U.W U.gx U.gy]] at s3
 rw [show xZ en (uT x dQ) = [63] from by
  unfold xZ
  rw [O5 U.W (vT gx) U.gd.2.2]
  exact qV 0] at s2
 have nex : TA.avs (hdE en x) ≠ [] := fun h => nx.2 (by have := congrArg List.length h; rw [dH] at this; exact List.eq_nil_of_length_eq_zero this)
 have ney : TA.avs (hdE en y) ≠ [] := fun h => ny.2 (by have := congrArg List.length h; rw [dH] at this; exact List.eq_nil_of_length_eq_zero this)
 have szX := gq (hdE en x)
 have szY := gq (hdE en y)
 rw [je] at hJ
 rw [← dH] at lenx leny
 have lowX := bC 0 (hdE en x)
 have lowY := bC 0 (hdE en y)
 generalize kP (hdE en x ++ hdE en y) = J at hJ hT s1 s3
 generalize TA.avs (hdE en x) = XS at hX nex szX hJ lenx lowX
 generalize TA.avs (hdE en y) = YS at hY ney szY hJ leny lowY
 clear hm hne bx by' nx ny
 generalize prT J 0 = s at hT s1 s3
 have lq : ∀ q : TA, ∀ z ∈ [q.av], Low 0 z := fun q => dh (aY 0 q)
 refine vE (P := fun e H => H = Hg (bq (XS ++ YS).length 175) o0 o1 en x y ∧ iy e [(7, .ptr 5 0), (10, .ptr 6 0), (12, .ptr 7 0), (15, .str s)]) 4 _ _ _ (l7 _ _ _ _ ?_) fun e3 H3 ⟨eH, he3⟩ => ?_
 ·rw [← Ba he2]
  have hE0 := hEn .dead []
  have hE1 := hEn (bq XS.length 175) []
  obtain ⟨xk, xn, xs, xl⟩ := x
  obtain ⟨yk, yn, ys, yl⟩ := y
  obtain ⟨Jk, Jn, Js, Jl⟩ := J
  conv => whnf
  refine hX.any (lq _) (.lst _ _ trivial lowX) hE0 ?_
  conv => whnf
  refine dO (xs := []) (id := 0) (k := 4) (bytes := 72) (t := 175) (fun z hz => by cases hz) szX (by simp; omega) (by simp; omega) nex rfl ?_
  conv => whnf
  refine hY.any (lq _) (.lst _ _ trivial lowY) hE1 ?_
  conv => whnf
  refine dO (xs := XS) (id := 0) (k := 4) (bytes := 72) (t := 175) szX szY (by omega) (by omega) ney rfl ?_
  conv => whnf
  refine (hJ.weak (args := [.lst (XS ++ YS) (bM (XS ++ YS).length 0)]) ⟨Weak.tok _ _, trivial⟩).to ?_
  conv => whnf
  refine hT.to ?_
  conv => whnf
  exact ⟨rfl, rfl, rfl, rfl, rfl, trivial⟩
 subst eH
 refine l7 _ _ _ _ ?_
 rw [← Ba he3]
 have hE4 : ∀ J, Nz en (Hg (bq (XS ++ YS).length 175) o0 o1 en x y ++ J) 3 := hEn _
 generalize bq (XS ++ YS).length 175 = o at hE4 ⊢
 have v1 : ∀ (tk : Tok), Weak T.L (.agg [.int .i64 7, .str [], .lst [] .nil, .lst [x.av, y.av] tk]) (uT x y).av := fun tk => by
  show Weak T.L _ (au.agg [.int .i64 7, .str [], .lst (aS []) .none, .lst (TA.avs [x, y]) .none])
  exact Weak.agg ⟨Weak.refl _, Weak.refl _, Weak.tok _ _, Weak.tok _ _, trivial⟩
 have v2 : ∀ (tk : Tok), Weak T.L (.agg [.int .i64 7, .str [], .lst [] .nil, .lst [y.av, x.av] tk]) (uT y x).av := fun tk => by
  show Weak T.L _ (au.agg [.int .i64 7, .str [], .lst (aS []) .none, .lst (TA.avs [y, x]) .none])
  exact Weak.agg ⟨Weak.refl _, Weak.refl _, Weak.tok _ _, Weak.tok _ _, trivial⟩
 have v3 : ∀ (tk : Tok), Weak T.L (.agg [.int .i64 7, .str [], .lst [] .nil, .lst [x.av, .agg [.int .i64 4, .str [], .lst [] .nil, .lst [] .nil]] tk]) (uT x dQ).av := fun tk => by
  show Weak T.L _ (au.agg [.int .i64 7, .str [], .lst (aS []) .none, .lst (TA.avs [x, dQ]) .none])
  refine Weak.agg ⟨Weak.refl _, Weak.refl _, Weak.tok _ _, ?_, trivial⟩
  obtain ⟨xk, xn, xs, xl⟩ := x
  refine Weak.lstW rfl (fun k h y hy => ?_) ⟨Weak.refl _, Weak.refl _, Weak.refl _, Weak.refl _, Weak.refl _, Weak.refl _, Weak.tok _ _, Weak.tok _ _, trivial⟩
  have h1 : (4 : Nat) = k := h _ List.mem_cons_self
  subst h1
  simp only [TA.avs, List.mem_cons, List.not_mem_nil, or_false] at hy
  rcases hy with rfl | rfl <;> rfl
 have c1 := fun (tk : Tok) (J : Heap) (K KP : au → Heap → Prop) hk => aC.DY (args := [.ptr 5 0, .agg [.int .i64 7, .str [], .lst [] .nil, .lst [x.av, y.av] tk]]) (s1.any (lq _) (.str _) (hE4 J) (K := K) (KP := KP) hk) ⟨Weak.refl _, v1 tk, trivial⟩
 have c2 := fun (tk : Tok) (J : Heap) (K KP : au → Heap → Prop) hk => aC.DY (args := [.ptr 5 0, .agg [.int .i64 7, .str [], .lst [] .nil, .lst [x.av, .agg [.int .i64 4, .str [], .lst [] .nil, .lst [] .nil]] tk]]) (s2.any (lq _) (.str _) (hE4 J) (K := K) (KP := KP) hk) ⟨Weak.refl _, v3 tk, trivial⟩
 have c3 := fun (tk : Tok) (J : Heap) (K KP : au → Heap → Prop) hk => aC.DY (args := [.ptr 5 0, .agg [.int .i64 7, .str [], .lst [] .nil, .lst [y.av, x.av] tk]]) (s3.any (lq _) (.str _) (hE4 J) (K := K) (KP := KP) hk) ⟨Weak.refl _, v2 tk, trivial⟩
 clear v1 v2 v3 s1 s2 s3 hEn hX hY U
 obtain ⟨xk, xn, xs, xl⟩ := x
 obtain ⟨yk, yn, ys, yl⟩ := y
 conv => whnf
 refine c1 _ _ _ _ ?_
 conv => whnf
 rw [show (s == s) = true from by simp]
 conv => whnf
 refine c2 _ _ _ _ ?_
 conv => whnf
 refine c3 _ _ _ _ ?_
 conv => whnf
 rw [show (s == s) = true from by simp]
 exact aH (Weak.refl _)
end Go.Ag
