/- Package cupelref05: declarations, Of. -/
import Derived.Test.YtljfbnbmcemdcaaGreatDoorAgRefEx2
set_option linter.unusedVariables false
namespace Go.Ag
open Go

variable {T : Tab} {L : Lnk}

/-! contracts elsewhere -/
theorem renLow1 {ρ : Nat → Nat} (h0 : ρ 0 = 0) {x : AVal} (h : Low 1 x) : ren ρ x = x := ren_low (n := 1) (fun i hi => by
  have : i = 0 := by omega
  subst this; exact h0) h
theorem renOLow1 {ρ : Nat → Nat} (h0 : ρ 0 = 0) {o : AObj} (h : LowO 1 o) : renO ρ o = o := by
  cases o with
  | cells cs t =>
    simp only [renO]
    rw [renL_map, show cs.map (ren ρ) = cs from (List.map_congr_left (g := id) fun x hx => renLow1 h0 (h x hx)).trans (List.map_id cs)]
  | arr v xs =>
    simp only [renO]
    rw [renL_map, show xs.map (ren ρ) = xs from (List.map_congr_left (g := id) fun x hx => renLow1 h0 (h x hx)).trans (List.map_id xs)]
  | map es =>
    simp only [renO]
    rw [show es.map (fun p => (ren ρ p.1, ren ρ p.2)) = es from (List.map_congr_left (g := id) fun x hx => by rw [renLow1 h0 (h x hx).1, renLow1 h0 (h x hx).2]; rfl).trans (List.map_id es)]
  | _ => rfl

theorem ACalls.at1 {f : Nat} {args : List AVal} {a a' : AObj} {y : AVal} (h : ACalls L f args [a] fun r H' => r = .ret y ∧ H' = [a']) (hargs : ∀ x ∈ args, Low 1 x) (ha : LowO 1 a) (hy : Low 1 y) (ha' : LowO 1 a') (J : Heap) :
    ACalls L f args (a :: J) fun r H' => r = .ret y ∧ H' = a' :: J := by
  have hp : Part (a :: J) [0] [a] := by
    refine ⟨by decide, rfl, fun k i o hk ho => ?_⟩
    match k, hk, ho with
    | 0, hk, ho => simp at hk ho; subst hk ho; rw [renOLow1 rfl ha]; rfl
    | k + 1, hk, ho => simp at hk
  have h1 := ACalls.frameL h [0] hp (.inr fun r H1 hq => by rw [hq.2]; exact Nat.le_refl _)
  rw [show args.map (ren (nameOf [0] (a :: J).length)) = args from (List.map_congr_left (g := id) fun x hx => renLow1 rfl (hargs x hx)).trans (List.map_id args)] at h1
  refine h1.mono fun r H' ⟨r1, H1, ⟨e1, e2⟩, _, e3, e4⟩ => ?_
  subst e1 e2
  exact ⟨by rw [e3]; simp only [renR]; rw [renLow1 rfl hy], by rw [e4]; simp [putL]; exact renOLow1 rfl ha'⟩

theorem Call2.at2 {f : Nat} {args : List AVal} {a b a' b' : AObj} {y : AVal} (h : Call2 L f (.ptr 1 0 :: args) a b y a' b') (hargs : ∀ x ∈ args, Low 1 x) (ha : LowO 1 a) (hb : LowO 1 b) (hy : Low 1 y) (ha' : LowO 1 a') (hb' : LowO 1 b') (c : AObj) (J : Heap) :
    ACalls L f (.ptr 2 0 :: args) (a :: c :: b :: J) fun r H' => r = .ret y ∧ H' = a' :: c :: b' :: J := by
  have hp : Part (a :: c :: b :: J) [0, 2] [a, b] := by
    refine ⟨by decide, rfl, fun k i o hk ho => ?_⟩
    match k, hk, ho with
    | 0, hk, ho => simp at hk ho; subst hk ho; rw [renOLow1 rfl ha]; rfl
    | 1, hk, ho => simp at hk ho; subst hk ho; rw [renOLow1 rfl hb]; rfl
    | k + 2, hk, ho => simp at hk
  have h1 := ACalls.frameL h [0, 2] hp (.inr fun r H1 hq => by rw [hq.2]; exact Nat.le_refl _)
  rw [show (AVal.ptr 1 0 :: args).map (ren (nameOf [0, 2] (a :: c :: b :: J).length)) = .ptr 2 0 :: args from by
    rw [List.map_cons, show args.map (ren (nameOf [0, 2] (a :: c :: b :: J).length)) = args from (List.map_congr_left (g := id) fun x hx => renLow1 rfl (hargs x hx)).trans (List.map_id args)]; rfl] at h1
  refine h1.mono fun r H' ⟨r1, H1, ⟨e1, e2⟩, _, e3, e4⟩ => ?_
  subst e1 e2
  exact ⟨by rw [e3]; simp only [renR]; rw [renLow1 rfl hy], by rw [e4]; simp [putL]; exact ⟨renOLow1 rfl ha', renOLow1 rfl hb'⟩⟩

theorem RC.to2 {f : Nat} {args : List AVal} {s s' : RS} {y : AVal} (h : RC L f args s y s') (hargs : ∀ x ∈ args, Low 1 x) (hy : Low 1 y) {H : Heap} {K KP : AVal → Heap → Prop} (c : AObj) (J : Heap) (hH : H = dobjR s :: c :: robj s :: J)
    (hk : K y (dobjR s' :: c :: robj s' :: J)) : ACalls L f (.ptr 2 0 :: args) H (contR K KP) := by
  subst hH
  exact (Call2.at2 h hargs (dobj_low _ _ _) (low_robjN (by decide) s) hy (dobj_low _ _ _) (low_robjN (by decide) s') c J).mono fun r H' ⟨e1, e2⟩ => by subst e1 e2; exact hk

/-! Of -/
def startR (src : Bytes) : RS := ⟨(lexA src).1, 0, (lexA src).2, false⟩

theorem of_spec (h39 : T.has 39 c_39) (h58 : T.has 58 c_58) (h79 : T.has 79 c_79) (h80 : T.has 80 c_80) (h81 : T.has 81 c_81) (h82 : T.has 82 c_82) (src : Bytes) (hs : src.length ≤ 2 ^ 32) :
    ACalls T.L 39 [.str src] [.dead] fun r H' => r = .ret (.agg [.lst ((lexA src).1.map TokA.av) .none, .int .i64 0, .lst ((lexA src).2.map DiagA.av) (dtok (lexA src).2.length 0), .bool false]) ∧ H' = [dobj (lexA src).2.length 127] := by
  have hl1 : Low 1 (.tup [.lst ((lexA src).1.map TokA.av) .none, .lst ((lexA src).2.map DiagA.av) (dtok (lexA src).2.length 0)]) :=
    .tup _ (LowL.at ⟨low_toks _ _ _ trivial, low_diags _ _ _ (dtok_low (by decide)), trivial⟩)
  have hlex := fun J => ACalls.at1 (lex_spec h58 h79 h80 h81 h82 src hs) (low1 (.str _)) trivial hl1 (dobj_low _ _ _) J
  have hl2 : Low 1 (.agg [.lst ((lexA src).1.map TokA.av) .none, .int .i64 0, .lst ((lexA src).2.map DiagA.av) (dtok (lexA src).2.length 0), .bool false]) :=
    .agg _ (LowL.at ⟨low_toks _ _ _ trivial, .int _ _, low_diags _ _ _ (dtok_low (by decide)), .bool _, trivial⟩)
  generalize lexA src = lx at hlex hl1 hl2 ⊢
  have main : ACalls T.L 39 [.str src] [AObj.dead] fun r H1 => ∃ x J, r = .ret x ∧ Weak T.L x (.agg [.lst (lx.1.map TokA.av) .none, .int .i64 0, .lst (lx.2.map DiagA.av) (dtok lx.2.length 0), .bool false]) ∧ H1 = dobj lx.2.length 127 :: J := by
    refine acallsG h39 (by simp [c_39]) ?_
    conv => whnf
    refine (hlex _).mono fun r H' ⟨e1, e2⟩ => ?_
    subst e1 e2
    conv => whnf
    exact ⟨_, _, rfl, Weak.refl _, rfl⟩
  refine (ACalls.gcW (Q := fun z H' => z = (.agg [.lst (lx.1.map TokA.av) .none, .int .i64 0, .lst (lx.2.map DiagA.av) (dtok lx.2.length 0), .bool false]) ∧ H' = [dobj lx.2.length 127])
    (main.mono fun r H1 ⟨x, J, e1, e2, e3⟩ => ?_)).mono fun r H1 ⟨z, e1, _, e2, e3⟩ => ⟨by rw [e1, e2], e3⟩
  refine ⟨x, _, [dobj lx.2.length 127], [dobj lx.2.length 127], J, by rw [e3]; rfl, e1, e2, hl2, rfl, rfl, fun i o o' h1 h2 => by rw [h1] at h2; cases h2; exact WeakO.refl o, fun o ho => ?_, rfl, rfl⟩
  simp only [List.mem_singleton] at ho; subst ho; exact dobj_low _ _ _

/-! decl -/
def kUse : Bytes := [117, 115, 101]
def kTypeW : Bytes := [116, 121, 112, 101]
def declU (p : TokA × RS) : DeclA × RS := (⟨1, p.1.at_, p.1.text, [], []⟩, takeR p.2 kSemi)
def declT (n : Nat) (p : TokA × RS) : DeclA × RS := (⟨2, p.1.at_, p.1.text, [(typeR n 1 (takeR p.2 kEq)).1], []⟩, takeR (typeR n 1 (takeR p.2 kEq)).2 kSemi)
def declE (n : Nat) (t : TokA) (ts : List TA) (s : RS) : DeclA × RS := (⟨3, t.at_, t.text, ts, [(exprR n 1 (takeR s kEq)).1]⟩, takeR (exprR n 1 (takeR s kEq)).2 kSemi)
def declL (n : Nat) (p : TokA × RS) : DeclA × RS := if isR p.2 kColon then declE n p.1 [(typeR n 1 (takeR p.2 kColon)).1] (typeR n 1 (takeR p.2 kColon)).2 else declE n p.1 [] p.2
def declR (n : Nat) (s : RS) : DeclA × RS :=
  if isR s kUse then declU (nameR (takeR s kUse))
  else if isR s kTypeW then declT n (nameR (takeR s kTypeW))
  else if isR s kLet then declL n (nameR (takeR s kLet))
  else (⟨0, 0, [], [], []⟩, giveR s 2)

theorem low_decl (n : Nat) (x : DeclA) : Low n x.av := .agg _ (LowL.at ⟨.int _ _, .int _ _, .str _, .lst _ _ trivial (low_tas _ _), .lst _ _ trivial (low_eas _ _), trivial⟩)
theorem weak_decl (k p : Int) (nm : Bytes) (ts : List TA) (es : List EA) (t1 t2 : Tok) : Weak L (.agg [.int .i64 k, .int .i64 p, .str nm, .lst (TA.avs ts) t1, .lst (EA.avs es) t2]) (DeclA.mk k p nm ts es).av :=
  Weak.agg ⟨Weak.refl _, Weak.refl _, Weak.refl _, Weak.tok _ _, Weak.tok _ _, trivial⟩

theorem decl_le {n : Nat} {s : RS} (hs : s.ok) : s.le (declR n s).2 := by
  have tk := fun (s : RS) (h : s.ok) (w : Bytes) => take_le h w
  have hE : ∀ (t : TokA) (ts : List TA) (s : RS), s.ok → s.le (declE n t ts s).2 := fun t ts s hs => by
    have k1 := tk s hs kEq
    have k2 := k1.trans ((le_exprs n).expr 1 _ (hs.of k1))
    exact k2.trans (tk _ (hs.of k2) kSemi)
  unfold declR
  split
  · have k1 := tk s hs kUse
    have k2 := k1.trans (name_le (hs.of k1))
    exact k2.trans (tk _ (hs.of k2) kSemi)
  · split
    · have k1 := tk s hs kTypeW
      have k2 := k1.trans (name_le (hs.of k1))
      have k3 := k2.trans (tk _ (hs.of k2) kEq)
      have k4 := k3.trans ((le_types n).1 1 _ (hs.of k3))
      exact k4.trans (tk _ (hs.of k4) kSemi)
    · split
      · have k1 := tk s hs kLet
        have k2 := k1.trans (name_le (hs.of k1))
        unfold declL
        split
        · have k3 := k2.trans (tk _ (hs.of k2) kColon)
          have k4 := k3.trans ((le_types n).1 1 _ (hs.of k3))
          exact k4.trans (hE _ _ _ (hs.of k4))
        · exact k2.trans (hE _ _ _ (hs.of k2))
      · exact give_le hs 2

theorem decl_spec (F : RFns T) (n : Nat) (s : RS) (hs : s.ok) (hf : 6 * s.rem + 8 ≤ n) : RC T.L 40 [] s (declR n s).1.av (declR n s).2 := by
  refine RC.of 0 (low_decl _ _) (acallsG F.h40 (by simp [c_40]) ?_)
  obtain ⟨R, hR⟩ : ∃ R, declR n s = R := ⟨_, rfl⟩
  rw [hR]
  rw [declR] at hR
  conv => whnf
  intro I hI hG
  refine hI _ _ ?_
  conv => whnf
  refine ⟨by decide, ?_⟩
  conv => whnf
  refine ⟨rfl, ?_⟩
  conv => whnf
  refine F.is hs kUse _ rfl ?_
  cases h0 : isR s kUse
  · rw [if_neg (by simp [h0])] at hR
    conv => whnf
    refine hI _ _ ?_
    conv => whnf
    refine ⟨by decide, ?_⟩
    conv => whnf
    refine ⟨rfl, ?_⟩
    conv => whnf
    refine F.is hs kTypeW _ rfl ?_
    cases h1 : isR s kTypeW
    · rw [if_neg (by simp [h1])] at hR
      conv => whnf
      refine hI _ _ ?_
      conv => whnf
      refine ⟨by decide, ?_⟩
      conv => whnf
      refine ⟨rfl, ?_⟩
      conv => whnf
      refine F.is hs kLet _ rfl ?_
      cases h2 : isR s kLet
      · rw [if_neg (by simp [h2])] at hR
        conv => whnf
        refine hI _ _ ?_
        conv => whnf
        refine F.give hs 2 _ rfl ?_
        subst hR
        conv => whnf
        exact ⟨_, rfl, weak_decl _ _ _ [] [] _ _, rfl⟩
      · rw [if_pos h2] at hR
        conv => whnf
        refine ⟨by decide, ?_⟩
        conv => whnf
        refine ⟨rfl, ?_⟩
        conv => whnf
        refine F.take hs kLet _ rfl ?_
        have k1 := take_le hs kLet
        have hr1 := k1.rem
        generalize takeR s kLet = s1 at k1 hr1 hR ⊢
        have hs1 := hs.of k1
        conv => whnf
        refine hI _ _ ?_
        conv => whnf
        clear hI hG
        refine F.name hs1 _ rfl ?_
        have n1 := name_le hs1
        have hrn := n1.rem
        obtain ⟨p, hp⟩ : ∃ p, nameR s1 = p := ⟨_, rfl⟩
        rw [hp] at hR n1 hrn ⊢
        have hs2 := hs1.of n1
        conv => whnf
        refine F.is hs2 kColon _ rfl ?_
        rw [declL] at hR
        cases h3 : isR p.2 kColon
        · rw [if_neg (by simp [h3]), declE] at hR
          conv => whnf
          refine F.take hs2 kEq _ rfl ?_
          have k3 := take_le hs2 kEq
          have hr3 := k3.rem
          generalize takeR p.2 kEq = s3 at k3 hr3 hR ⊢
          have hs3 := hs2.of k3
          conv => whnf
          have hq := (ex_all F n).expr 1 s3 hs3 (by omega) (by omega)
          have hle := (le_exprs n).expr 1 s3 hs3
          obtain ⟨q, hqe⟩ : ∃ q, exprR n 1 s3 = q := ⟨_, rfl⟩
          rw [hqe] at hq hle hR
          obtain ⟨⟨c1, c2, c3, c4, c5, c6, c7⟩, s4⟩ := q
          dsimp only at hq hle hR
          subst hR
          refine hq.to (low1 (.int _ _)) (low_ea _ _) _ rfl ?_
          conv => whnf
          refine F.take (hs3.of hle) kSemi _ rfl ?_
          conv => whnf
          exact ⟨_, rfl, weak_decl _ _ _ [] [.mk c1 c2 c3 c4 c5 c6 c7] _ _, rfl⟩
        · rw [if_pos h3] at hR
          conv => whnf
          refine F.take hs2 kColon _ rfl ?_
          have k3 := take_le hs2 kColon
          have hr3 := k3.rem
          generalize takeR p.2 kColon = s3 at k3 hr3 hR ⊢
          have hs3 := hs2.of k3
          conv => whnf
          have hq := (ty_all F n).type 1 s3 hs3 (by omega) (by omega)
          have hle := (le_types n).1 1 s3 hs3
          have hre := hle.rem
          obtain ⟨q, hqe⟩ : ∃ q, typeR n 1 s3 = q := ⟨_, rfl⟩
          rw [hqe] at hq hle hR hre
          obtain ⟨⟨a1, a2, a3, a4⟩, s4⟩ := q
          dsimp only at hq hle hR hre
          refine hq.to (low1 (.int _ _)) (low_ta _ _) _ rfl ?_
          have hs4 := hs3.of hle
          rw [declE] at hR
          conv => whnf
          refine F.take hs4 kEq _ rfl ?_
          have k5 := take_le hs4 kEq
          have hr5 := k5.rem
          generalize takeR s4 kEq = s5 at k5 hr5 hR ⊢
          have hs5 := hs4.of k5
          conv => whnf
          have hq := (ex_all F n).expr 1 s5 hs5 (by omega) (by omega)
          have hle := (le_exprs n).expr 1 s5 hs5
          obtain ⟨q, hqe⟩ : ∃ q, exprR n 1 s5 = q := ⟨_, rfl⟩
          rw [hqe] at hq hle hR
          obtain ⟨⟨c1, c2, c3, c4, c5, c6, c7⟩, s6⟩ := q
          dsimp only at hq hle hR
          subst hR
          refine hq.to (low1 (.int _ _)) (low_ea _ _) _ rfl ?_
          conv => whnf
          refine F.take (hs5.of hle) kSemi _ rfl ?_
          conv => whnf
          exact ⟨_, rfl, weak_decl _ _ _ [.mk a1 a2 a3 a4] [.mk c1 c2 c3 c4 c5 c6 c7] _ _, rfl⟩
    · rw [if_pos h1, declT] at hR
      conv => whnf
      refine ⟨by decide, ?_⟩
      conv => whnf
      refine ⟨rfl, ?_⟩
      conv => whnf
      refine F.take hs kTypeW _ rfl ?_
      have k1 := take_le hs kTypeW
      have hr1 := k1.rem
      generalize takeR s kTypeW = s1 at k1 hr1 hR ⊢
      have hs1 := hs.of k1
      conv => whnf
      refine hI _ _ ?_
      conv => whnf
      refine hI _ _ ?_
      conv => whnf
      clear hI hG
      refine F.name hs1 _ rfl ?_
      have n1 := name_le hs1
      have hrn := n1.rem
      obtain ⟨p, hp⟩ : ∃ p, nameR s1 = p := ⟨_, rfl⟩
      rw [hp] at hR n1 hrn ⊢
      have hs2 := hs1.of n1
      conv => whnf
      refine F.take hs2 kEq _ rfl ?_
      have k3 := take_le hs2 kEq
      have hr3 := k3.rem
      generalize takeR p.2 kEq = s3 at k3 hr3 hR ⊢
      have hs3 := hs2.of k3
      conv => whnf
      have hq := (ty_all F n).type 1 s3 hs3 (by omega) (by omega)
      have hle := (le_types n).1 1 s3 hs3
      obtain ⟨q, hqe⟩ : ∃ q, typeR n 1 s3 = q := ⟨_, rfl⟩
      rw [hqe] at hq hle hR
      obtain ⟨⟨a1, a2, a3, a4⟩, s4⟩ := q
      dsimp only at hq hle hR
      subst hR
      refine hq.to (low1 (.int _ _)) (low_ta _ _) _ rfl ?_
      conv => whnf
      refine F.take (hs3.of hle) kSemi _ rfl ?_
      conv => whnf
      exact ⟨_, rfl, weak_decl _ _ _ [.mk a1 a2 a3 a4] [] _ _, rfl⟩
  · rw [if_pos h0, declU] at hR
    conv => whnf
    refine ⟨by decide, ?_⟩
    conv => whnf
    refine ⟨rfl, ?_⟩
    conv => whnf
    refine F.take hs kUse _ rfl ?_
    have k1 := take_le hs kUse
    generalize takeR s kUse = s1 at k1 hR ⊢
    have hs1 := hs.of k1
    conv => whnf
    refine hI _ _ ?_
    conv => whnf
    refine hI _ _ ?_
    conv => whnf
    refine hI _ _ ?_
    conv => whnf
    clear hI hG
    refine F.name hs1 _ rfl ?_
    have n1 := name_le hs1
    obtain ⟨p, hp⟩ : ∃ p, nameR s1 = p := ⟨_, rfl⟩
    rw [hp] at hR n1 ⊢
    have hs2 := hs1.of n1
    conv => whnf
    refine F.take hs2 kSemi _ rfl ?_
    subst hR
    conv => whnf
    exact ⟨_, rfl, weak_decl _ _ _ [] [] _ _, rfl⟩

end Go.Ag
