/- The condition that a run of abstract code meets a post: by recursion over the code. -/
import Derived.Test.YtljfbnbmcemdcaaGreatDoorAgGC
namespace Go.Ag
open Go

/-- A value of k cells, each of which can be stored. -/
def okCells (k : Nat) (x : AVal) : Prop := x.cells.length = k ∧ x.cells.all oneA = true
def Sized (k : Nat) (xs : List AVal) : Prop := ∀ x ∈ xs, okCells k x

/-- Is it the nil of its kind (0 interface, 1 function, 2 pointer, 3 slice, 4 map)? -/
def isNil : Nat → AVal → Option Bool
  | 0, .niliface => some true
  | 0, .iface _ _ => some false
  | 1, .nilfn => some true
  | 1, .fn _ _ _ => some false
  | 2, .nilptr => some true
  | 2, .ptr _ _ | 2, .lptr _ => some false
  | 3, .lst _ .nil => some true
  | 3, .lst (_ :: _) _ | 3, .arr _ _ _ _ => some false
  | 4, .nilmap => some true
  | 4, .map _ => some false
  | _, _ => none

/-- Equality of two rows of plain cells (kinds: 0 integer, 1 string, 2 truth). -/
def eqCells : List Nat → List AVal → List AVal → Option Bool
  | [], [], [] => some true
  | 0 :: ks, .int k a :: xs, .int k' b :: ys => if k = k' then (eqCells ks xs ys).map (a == b && ·) else none
  | 1 :: ks, .str a :: xs, .str b :: ys => (eqCells ks xs ys).map (a == b && ·)
  | 2 :: ks, .bool a :: xs, .bool b :: ys => (eqCells ks xs ys).map (a == b && ·)
  | _, _, _ => none

/-- Bytes as a list of numbers. -/
def byteL (s : List UInt8) : List AVal := s.map fun b => .int .u8 b.toNat

def bytesA : List AVal → Option (List UInt8)
  | [] => some []
  | .int .u8 n :: xs => if 0 ≤ n ∧ n < 256 then (bytesA xs).map (UInt8.ofNat n.toNat :: ·) else none
  | _ => none

theorem bytesA_eq : ∀ (xs : List AVal) (s : List UInt8), bytesA xs = some s → xs = byteL s
  | [], s, h => by cases h; rfl
  | x :: xs, s, h => by
    cases x <;> try (simp [bytesA] at h; done)
    rename_i kk n
    cases kk <;> try (simp [bytesA] at h; done)
    simp only [bytesA] at h
    split at h
    · rename_i hn
      cases h1 : bytesA xs with
      | none => rw [h1] at h; cases h
      | some s' =>
        rw [h1] at h
        cases h
        have ih := bytesA_eq xs s' h1
        have e1 : ((UInt8.ofNat n.toNat).toNat : Int) = n := by
          rw [UInt8.toNat_ofNat']
          omega
        simp only [byteL, List.map_cons, e1]
        rw [ih]
        rfl
    · cases h
theorem bytesA_of (s : List UInt8) : bytesA (byteL s) = some s := by
  induction s with
  | nil => rfl
  | cons b s ih =>
    have hb : b.toNat < 256 := b.toNat_lt
    simp only [byteL, List.map_cons] at ih ⊢
    simp only [bytesA, ih]
    rw [if_pos ⟨by omega, by omega⟩]
    simp

/-- What follows a call: where it has returned, where it has panicked. -/
def contR (K KP : AVal → Heap → Prop) : ARet → Heap → Prop
  | .ret x, H => K x H
  | .pan v, H => KP v H

@[irreducible] def appK (k bytes t : Nat) (s x : AVal) (H : Heap) (K : AVal → Heap → Prop) : Prop :=
  match s, x with
    | .lst xs tk, .lst ys _ => Sized k xs ∧ Sized k ys ∧ (xs.length + ys.length) * bytes ≤ 2 ^ 46 ∧ xs.length + ys.length ≤ 2 ^ 46 ∧
      (if ys = [] then K (.lst xs tk) H else match tk with
        | .nil | .full => K (.lst (xs ++ ys) (.tail H.length)) (H ++ [.tail (xs ++ ys).length t]) ∨ ∃ id, H[id]? = some .dead ∧ K (.lst (xs ++ ys) (.tail id)) (H.set id (.tail (xs ++ ys).length t))
        | .tail id => match H[id]? with
          | some (.tail m t') => (m = xs.length ∧ t' = t) ∧ K (.lst (xs ++ ys) (.tail id)) (H.set id (.tail (xs ++ ys).length t))
          | _ => False
        | .none => False)
    | _, _ => False

@[irreducible] def appSK (bytes t : Nat) (s x : AVal) (H : Heap) (K : AVal → Heap → Prop) : Prop :=
  match s, x with
    | .lst xs tk, .str y => Sized 1 xs ∧ (xs.length + y.length) * bytes ≤ 2 ^ 46 ∧ xs.length + y.length ≤ 2 ^ 46 ∧
      (if y = [] then K (.lst xs tk) H else match tk with
        | .nil | .full => K (.lst (xs ++ byteL y) (.tail H.length)) (H ++ [.tail (xs.length + y.length) t])
        | .tail id => match H[id]? with
          | some (.tail m t') => (m = xs.length ∧ t' = t) ∧ K (.lst (xs ++ byteL y) (.tail id)) (H.set id (.tail (xs.length + y.length) t))
          | _ => False
        | .none => False)
    | _, _ => False

def stepOp (L : Lnk) (q : AOp) (e : Env) (H : Heap) (K KP : AVal → Heap → Prop) : Prop :=
  match q with
  | .mv x => K (ev e x) H
  | .pick c a b => match ev e c with
    | .bool t => K (if t then ev e a else ev e b) H
    | _ => False
  | .alloc z t => K (.ptr H.length 0) (H ++ [.cells z t])
  | .box t x => (ev e x).cells.all oneA = true ∧ K (.ptr H.length 0) (H ++ [.cells (ev e x).cells t])
  | .build z parts => (∀ p ∈ parts, okCells p.2.1 (ev e p.2.2) ∧ p.1 + p.2.1 ≤ z.length) ∧
      K (.agg (fillA z (parts.map fun p => (p.1, (ev e p.2.2).cells)))) H
  | .lit k _ _ _ parts => (∀ p ∈ parts, okCells k (ev e p.2)) ∧ K (.lst (parts.map fun p => ev e p.2) .full) H
  | .load k a => match loadAt H k (ev e a) with
    | some v => K v H
    | none => False
  | .store k a x => okCells k (ev e x) ∧ match storeAt H k (ev e a) (ev e x) with
    | some H' => K .undef H'
    | none => False
  | .nilck x => match ev e x with
    | .ptr id off => K (.ptr id off) H
    | .lptr cs => K (.lptr cs) H
    | _ => False
  | .bin op x y => match evBin op (ev e x) (ev e y) with
    | some v => K v H
    | none => False
  | .un op x => match evUn op (ev e x) with
    | some v => K v H
    | none => False
  | .convInt k x => match ev e x with
    | .int _ n => K (.int k (k.wrap n)) H
    | _ => False
  | .convStr x => match ev e x with
    | .str s => K (.str s) H
    | _ => False
  | .convB2S x => match ev e x with
    | .lst xs _ => match bytesA xs with
      | some s => K (.str s) H
      | none => False
    | _ => False
  | .convA2S x => match ev e x with
    | .arr id _ off len => match H[id]? with
      | some (.cells cs _) => off + len ≤ cs.length ∧ match bytesA ((cs.drop off).take len) with
        | some s => K (.str s) H
        | none => False
      | _ => False
    | _ => False
  | .make z t x => match ev e x with
    | .int _ n => (0 ≤ n ∧ n ≤ 2 ^ 40) ∧ K (.arr H.length 1 0 n.toNat) (H ++ [.cells (List.replicate n.toNat z) t])
    | _ => False
  | .eqNil k neg x => match isNil k (ev e x) with
    | some b => K (.bool (b != neg)) H
    | none => False
  | .eqBool neg x y => match ev e x, ev e y with
    | .bool a, .bool b => K (.bool ((a == b) != neg)) H
    | _, _ => False
  | .eqCells ks neg x y => match ev e x, ev e y with
    | .agg xs, .agg ys => match eqCells ks xs ys with
      | some b => K (.bool (b != neg)) H
      | none => False
    | _, _ => False
  | .mkI t x => K (.iface t (ev e x)) H
  | .mkF f fi ca => K (.fn f (fi.map (ev e)) (ca.map (ev e))) H
  | .slcS x lo hi => match ev e x with
    | .str s => match boundI (lo.map (ev e)) 0, boundI (hi.map (ev e)) s.length with
      | some l, some h => l ≤ h ∧ h ≤ s.length ∧ K (.str ((s.take h).drop l)) H
      | _, _ => False
    | _ => False
  | .slcL k x lo hi => match ev e x with
    | .lst xs tk => match boundI (lo.map (ev e)) 0, boundI (hi.map (ev e)) xs.length with
      | some l, some h => l ≤ h ∧ h ≤ xs.length ∧ Sized k xs ∧ K (.lst ((xs.take h).drop l) (if l = 0 ∧ h = xs.length then tk else .none)) H
      | _, _ => False
    | _ => False
  | .faddr off x => match ev e x with
    | .ptr id o => K (.ptr id (o + off)) H
    | .lptr cs => off ≤ cs.length ∧ K (.lptr (cs.drop off)) H
    | _ => False
  | .fld off k x => match ev e x with
    | .agg cs => match k with
      | none => match cs[off]? with
        | some c => K c H
        | none => False
      | some k => off + k ≤ cs.length ∧ K (.agg ((cs.drop off).take k)) H
    | _ => False
  | .iaddr k x i => match ev e x, ev e i with
    | .lst xs _, .int _ n => 0 ≤ n ∧ match xs[n.toNat]? with
      | some y => y.cells.length = k ∧ K (.lptr y.cells) H
      | none => False
    | .arr id k' off len, .int _ n => (0 ≤ n ∧ n < len ∧ k' = 1 ∧ k = 1) ∧ K (.ptr id (off + n.toNat)) H
    | _, _ => False
  | .idxS x i => match ev e x, ev e i with
    | .str s, .int _ n => 0 ≤ n ∧ match s[n.toNat]? with
      | some c => K (.int .u8 c.toNat) H
      | none => False
    | _, _ => False
  | .ext x i => match ev e x with
    | .tup vs => match vs[i]? with
      | some v => K v H
      | none => False
    | _ => False
  | .lenS x => match ev e x with
    | .str s => K (.int .i64 s.length) H
    | _ => False
  | .lenL x => match ev e x with
    | .lst xs _ => K (.int .i64 xs.length) H
    | .arr _ _ _ n => K (.int .i64 n) H
    | _ => False
  | .append k bytes t s x => appK k bytes t (ev e s) (ev e x) H K
  | .appendS bytes t s x => appSK bytes t (ev e s) (ev e x) H K
  | .ssd x => match ev e x with
    | .lst xs tk => (xs ≠ [] ∨ tk = .nil) ∧ K (.dptr xs tk) H
    | _ => False
  | .ustr t p n => match ev e p, ev e n with
    | .dptr xs tk, .int .i64 m => m = xs.length ∧ xs.length ≤ 2 ^ 46 ∧ match bytesA xs with
      | some s => match tk with
        | .nil => K (.str []) H
        | .tail id => match H[id]? with
          | some (.tail k t') => (k = xs.length ∧ t' = t ∧ xs ≠ []) ∧ K (.str s) (H.set id .gone)
          | _ => False
        | _ => False
      | none => False
    | _, _ => False
  | .call f args => ACalls L f (args.map (ev e)) H (contR K KP)
  | .callv f args => match ev e f with
    | .fn (.func g) fi ca => ACalls L g (fi ++ args.map (ev e) ++ ca) H (contR K KP)
    | _ => False
  | .panic x => match ev e x with
    | .iface t v => KP (.iface t v) H
    | _ => False

def putA (e : Env) (d : Option Nat) (v : AVal) : Env := match d with
  | some i => upd e i v
  | none => e

def xops (L : Lnk) : List AO → Env → Heap → (Env → Heap → Prop) → (AVal → Heap → Prop) → Prop
  | [], e, H, K, _ => K e H
  | o :: os, e, H, K, KP => match o.guard with
    | none => stepOp L o.op e H (fun v H' => xops L os (putA e o.dst v) H' K KP) KP
    | some (t, want) => match e t with
      | .bool b => match want, b with
        | true, true => stepOp L o.op e H (fun v H' => xops L os (putA e o.dst v) H' K KP) KP
        | false, false => stepOp L o.op e H (fun v H' => xops L os (putA e o.dst v) H' K KP) KP
        | true, false => xops L os (putA e o.dst (.tup [])) H K KP
        | false, true => xops L os (putA e o.dst (.tup [])) H K KP
      | .tup [] => xops L os (putA e o.dst (.tup [])) H K KP
      | _ => False

abbrev XPost := AExit → Env → Heap → Prop
/-- What follows a piece of code: code behind it, where it ends; the rest where it leaves. -/
def seqQ (f : Env → Heap → Prop) (Q : XPost) : XPost := fun x e H => match x with
  | .normal => f e H
  | x => Q x e H
def blkQ (id : Nat) (Q : XPost) : XPost := fun x e H => match x with
  | .exit i => match i == id with
    | true => Q .normal e H
    | false => Q (.exit i) e H
  | x => Q x e H

/-- Below a bound two heaps are one, but for the lengths of tails. -/
def agree (n : Nat) (H H' : Heap) : Prop := n ≤ H'.length ∧ ∀ i o, i < n → H[i]? = some o → (∀ m t, o ≠ .tail m t) → o ≠ .dead → H'[i]? = some o

/-- May it come up in any order beside its like? -/
def isSoft : AOp → Bool
  | .store _ _ _ | .append _ _ _ _ _ | .appendS _ _ _ _ | .ustr _ _ _ | .panic _ | .convA2S _ | .make _ _ _ => false
  | _ => true

def ptrOK (n : Nat) : AVal → Bool
  | .ptr id _ => decide (id < n)
  | .lptr _ => true
  | _ => false

/-- An operation whose place in the order is open: what it tells must not hang on what else has come up. -/
def softStep (L : Lnk) (q : AOp) (e : Env) (H0 H : Heap) (K : AVal → Heap → Prop) : Prop :=
  match q with
  | .alloc z t => K (.ptr H.length 0) (H ++ [.cells z t])
  | .box t x => (ev e x).cells.all oneA = true ∧ K (.ptr H.length 0) (H ++ [.cells (ev e x).cells t])
  | .load k a => ptrOK H0.length (ev e a) = true ∧ match loadAt H0 k (ev e a) with
    | some v => K v H
    | none => False
  | .call f args => ∃ v, (∀ H', agree H0.length H0 H' → ACalls L f (args.map (ev e)) H' fun r H'' => r = .ret v ∧ H'' = H') ∧ K v H
  | .callv f args => match ev e f with
    | .fn (.func g) fi ca => ∃ v, (∀ H', agree H0.length H0 H' → ACalls L g (fi ++ args.map (ev e) ++ ca) H' fun r H'' => r = .ret v ∧ H'' = H') ∧ K v H
    | _ => False
  | .store _ _ _ | .append _ _ _ _ _ | .appendS _ _ _ _ | .ustr _ _ _ | .panic _ | .convA2S _ | .make _ _ _ => False
  | q => stepOp L q e H K fun _ _ => False

def xsoft (L : Lnk) (H0 : Heap) : List AO → Env → Heap → (Env → Heap → Prop) → Prop
  | [], e, H, K => K e H
  | o :: os, e, H, K => match o.guard with
    | none => softStep L o.op e H0 H (fun v H' => xsoft L H0 os (putA e o.dst v) H' K)
    | some (t, want) => match e t with
      | .bool b => match want, b with
        | true, true => softStep L o.op e H0 H (fun v H' => xsoft L H0 os (putA e o.dst v) H' K)
        | false, false => softStep L o.op e H0 H (fun v H' => xsoft L H0 os (putA e o.dst v) H' K)
        | true, false => xsoft L H0 os (putA e o.dst (.tup [])) H K
        | false, true => xsoft L H0 os (putA e o.dst (.tup [])) H K
      | .tup [] => xsoft L H0 os (putA e o.dst (.tup [])) H K
      | _ => False

/-- The early loads of a drawn region. -/
def loadsOf : List AO → List (Option Nat × AX)
  | [] => []
  | o :: l => match o.op with
    | .load k a => (k, a) :: loadsOf l
    | _ => loadsOf l
/-- What they tell is told still. -/
def stays : List (Option Nat × AX) → Env → Heap → Heap → Prop
  | [], _, _, _ => True
  | p :: l, e, H, H' => loadAt H' p.1 (ev e p.2) = loadAt H p.1 (ev e p.2) ∧ stays l e H H'
/-- A call among late operations: what the early ones read must stand. -/
def lateK (P : Heap → Prop) (q : AOp) (H : Heap) (K : Prop) : Prop := match q with
  | .call _ _ => P H ∧ K
  | .callv _ _ => P H ∧ K
  | _ => K

/-- Late operations, with calls that change things. -/
def xlate (L : Lnk) (P : Heap → Prop) : List AO → Env → Heap → (Env → Heap → Prop) → (AVal → Heap → Prop) → Prop
  | [], e, H, K, _ => K e H
  | o :: os, e, H, K, KP => match o.guard with
    | none => stepOp L o.op e H (fun v H' => lateK P o.op H' (xlate L P os (putA e o.dst v) H' K KP)) KP
    | some (t, want) => match e t with
      | .bool b => match want, b with
        | true, true => stepOp L o.op e H (fun v H' => lateK P o.op H' (xlate L P os (putA e o.dst v) H' K KP)) KP
        | false, false => stepOp L o.op e H (fun v H' => lateK P o.op H' (xlate L P os (putA e o.dst v) H' K KP)) KP
        | true, false => xlate L P os (putA e o.dst (.tup [])) H K KP
        | false, true => xlate L P os (putA e o.dst (.tup [])) H K KP
      | .tup [] => xlate L P os (putA e o.dst (.tup [])) H K KP
      | _ => False

def xcode (L : Lnk) : AC → Env → Heap → XPost → Prop
  | .skip, e, H, Q => Q .normal e H
  | .ops l, e, H, Q => xops L l e H (fun e' H' => Q .normal e' H') (fun v H' => Q (.pan v) e H')
  | .draw soft hard, e, H, Q => xsoft L H soft e H (fun e' H' => xops L hard e' H' (fun e'' H'' => Q .normal e'' H'') (fun v H'' => Q (.pan v) e' H''))
  | .drawc soft hard, e, H, Q => xsoft L H soft e H (fun e' H' => xlate L (stays (loadsOf soft) e' H) hard e' H' (fun e'' H'' => Q .normal e'' H'') (fun v H'' => Q (.pan v) e' H''))
  | .seq a b, e, H, Q => xcode L a e H (seqQ (fun e' H' => xcode L b e' H' Q) Q)
  | .cond c a b, e, H, Q => match ev e c with
    | .bool t => match t with
      | true => xcode L a e H Q
      | false => xcode L b e H Q
    | _ => False
  | .block id c, e, H, Q => xcode L c e H (blkQ id Q)
  | .loop c, e, H, Q => ∀ I : Env → Heap → Prop, (∀ e H, xcode L c e H (seqQ I Q) → I e H) → GC L H.length I → I e H
  | .exit id, e, H, Q => Q (.exit id) e H
  | .ret, e, H, Q => Q .ret e H
  | .bad, _, _, _ => False

def resA (e : Env) (H : Heap) : ARes → Option AVal
  | .tmp t => some (e t)
  | .cell t k => loadAt H k (e t)

def resAll (e : Env) (H : Heap) : List ARes → Option (List AVal)
  | [] => some []
  | r :: rs => match resA e H r, resAll e H rs with
    | some v, some vs => some (v :: vs)
    | _, _ => none

def resV (vs : List AVal) : AVal := match vs with
  | [v] => v
  | vs => .tup vs

def funQ (rs : List ARes) (Q : ARet → Heap → Prop) : XPost := fun x e' H' => match x with
  | .normal | .ret => match resAll e' H' rs with
    | some vs => Q (.ret (resV vs)) H'
    | none => False
  | .pan v => Q (.pan v) H'
  | .exit _ => False

def xfunc (L : Lnk) (af : AFunc) (args : List AVal) (H : Heap) (Q : ARet → Heap → Prop) : Prop :=
  xcode L af.body (fun i => args.getD i .undef) H (funQ af.results Q)

/-! environments with known slots -/
def setL (e : Env) : List (Nat × AVal) → Env
  | [] => e
  | (i, v) :: l => upd (setL e l) i v
def envHas (e : Env) : List (Nat × AVal) → Prop
  | [] => True
  | (i, v) :: l => e i = v ∧ envHas e l
theorem setL_id {e : Env} {l : List (Nat × AVal)} (h : envHas e l) : setL e l = e := by
  induction l with
  | nil => rfl
  | cons p l ih =>
    obtain ⟨i, v⟩ := p
    show upd (setL e l) i v = e
    rw [ih h.2]
    funext j
    simp only [upd]
    split
    · rename_i hj; subst hj; exact h.1.symm
    · rfl
theorem inv_of {I : Env → Heap → Prop} {e : Env} {H : Heap} (l : List (Nat × AVal)) (h : envHas e l) (hi : I (setL e l) H) : I e H := by
  rw [setL_id h] at hi; exact hi

/-! monotonicity -/
theorem stepOp_mono {L : Lnk} {q : AOp} {e : Env} {H : Heap} {K K' KP KP' : AVal → Heap → Prop} (hk : ∀ v H, K v H → K' v H) (hp : ∀ v H, KP v H → KP' v H)
    (h : stepOp L q e H K KP) : stepOp L q e H K' KP' := by
  have hc : ∀ r H', contR K KP r H' → contR K' KP' r H' := fun r H' h => by
    cases r
    · exact hk _ _ h
    · exact hp _ _ h
  cases q <;> simp only [stepOp] at h ⊢
  all_goals first
    | exact hk _ _ h
    | exact h.elim
    | exact ⟨h.1, hk _ _ h.2⟩
    | exact ACalls.mono h hc
    | skip
  case pick c a b => generalize ev e c = vx at h ⊢; cases vx <;> first | exact h.elim | exact hk _ _ h
  case load k a => generalize loadAt H k (ev e a) = vx at h ⊢; cases vx <;> first | exact h.elim | exact hk _ _ h
  case store k a x => refine ⟨h.1, ?_⟩; replace h := h.2; generalize storeAt H k (ev e a) (ev e x) = vx at h ⊢; cases vx <;> first | exact h.elim | exact hk _ _ h
  case nilck x => generalize ev e x = vx at h ⊢; cases vx <;> first | exact h.elim | exact hk _ _ h
  case bin op x y => generalize evBin op (ev e x) (ev e y) = vx at h ⊢; cases vx <;> first | exact h.elim | exact hk _ _ h
  case un op x => generalize evUn op (ev e x) = vx at h ⊢; cases vx <;> first | exact h.elim | exact hk _ _ h
  case convInt k x => generalize ev e x = vx at h ⊢; cases vx <;> first | exact h.elim | exact hk _ _ h
  case convStr x => generalize ev e x = vx at h ⊢; cases vx <;> first | exact h.elim | exact hk _ _ h
  case convB2S x =>
    generalize ev e x = vx at h ⊢; cases vx <;> try exact h.elim
    rename_i xs tk
    dsimp only at h ⊢
    cases h1 : bytesA xs <;> simp only [h1] at h ⊢
    exact hk _ _ h
  case convA2S x =>
    generalize ev e x = vx at h ⊢; cases vx <;> try exact h.elim
    rename_i id k' off len
    dsimp only at h ⊢
    cases hH : H[id]? with
    | none => rw [hH] at h; exact h.elim
    | some o =>
      cases o <;> simp only [hH] at h ⊢
      rename_i cs t
      refine ⟨h.1, ?_⟩
      replace h := h.2
      cases h1 : bytesA ((cs.drop off).take len) <;> simp only [h1] at h ⊢
      exact hk _ _ h
  case make z t x => generalize ev e x = vx at h ⊢; cases vx <;> first | exact h.elim | exact ⟨h.1, hk _ _ h.2⟩
  case eqNil k neg x => generalize isNil k (ev e x) = vx at h ⊢; cases vx <;> first | exact h.elim | exact hk _ _ h
  case eqBool neg x y => generalize ev e x = vx at h ⊢; generalize ev e y = vy at h ⊢; cases vx <;> cases vy <;> first | exact h.elim | exact hk _ _ h
  case eqCells ks neg x y =>
    generalize ev e x = vx at h ⊢; generalize ev e y = vy at h ⊢; cases vx <;> cases vy <;> try exact h.elim
    rename_i xs ys
    dsimp only at h ⊢
    cases h1 : eqCells ks xs ys <;> simp only [h1] at h ⊢
    exact hk _ _ h
  case slcS x lo hi =>
    generalize ev e x = vx at h ⊢; cases vx <;> try exact h.elim
    rename_i s
    dsimp only at h ⊢
    cases h1 : boundI (lo.map (ev e)) 0 <;> simp only [h1] at h ⊢ <;> cases h2 : boundI (hi.map (ev e)) s.length <;> simp only [h2] at h ⊢
    exact ⟨h.1, h.2.1, hk _ _ h.2.2⟩
  case slcL k x lo hi =>
    generalize ev e x = vx at h ⊢; cases vx <;> try exact h.elim
    rename_i xs tk
    dsimp only at h ⊢
    cases h1 : boundI (lo.map (ev e)) 0 <;> simp only [h1] at h ⊢ <;> cases h2 : boundI (hi.map (ev e)) xs.length <;> simp only [h2] at h ⊢
    exact ⟨h.1, h.2.1, h.2.2.1, hk _ _ h.2.2.2⟩
  case faddr off x => generalize ev e x = vx at h ⊢; cases vx <;> first | exact h.elim | exact hk _ _ h | exact ⟨h.1, hk _ _ h.2⟩
  case fld off k x =>
    generalize ev e x = vx at h ⊢; cases vx <;> try exact h.elim
    rename_i cs
    cases k with
    | none => dsimp only at h ⊢; cases h1 : cs[off]? <;> simp only [h1] at h ⊢; exact hk _ _ h
    | some k => exact ⟨h.1, hk _ _ h.2⟩
  case iaddr k x i =>
    generalize ev e x = vx at h ⊢; generalize ev e i = vi at h ⊢; cases vx <;> cases vi <;> try exact h.elim
    · rename_i xs tk k' n
      dsimp only at h ⊢
      refine ⟨h.1, ?_⟩
      replace h := h.2
      cases h1 : xs[n.toNat]? <;> simp only [h1] at h ⊢
      exact ⟨h.1, hk _ _ h.2⟩
    · exact ⟨h.1, hk _ _ h.2⟩
  case idxS x i =>
    generalize ev e x = vx at h ⊢; generalize ev e i = vi at h ⊢; cases vx <;> cases vi <;> try exact h.elim
    rename_i s k' n
    dsimp only at h ⊢
    refine ⟨h.1, ?_⟩
    replace h := h.2
    cases h1 : s[n.toNat]? <;> simp only [h1] at h ⊢
    exact hk _ _ h
  case ext x i =>
    generalize ev e x = vx at h ⊢; cases vx <;> try exact h.elim
    rename_i vs
    dsimp only at h ⊢
    cases h1 : vs[i]? <;> simp only [h1] at h ⊢
    exact hk _ _ h
  case lenS x => generalize ev e x = vx at h ⊢; cases vx <;> first | exact h.elim | exact hk _ _ h
  case lenL x => generalize ev e x = vx at h ⊢; cases vx <;> first | exact h.elim | exact hk _ _ h
  case append k bytes t s x =>
    unfold appK at h ⊢
    generalize ev e s = vs_ at h ⊢; generalize ev e x = vx at h ⊢; cases vs_ <;> cases vx <;> try exact h.elim
    rename_i xs tk ys tk'
    dsimp only at h ⊢
    refine ⟨h.1, h.2.1, h.2.2.1, h.2.2.2.1, ?_⟩
    replace h := h.2.2.2.2
    by_cases hy : ys = []
    · rw [if_pos hy] at h ⊢; exact hk _ _ h
    · rw [if_neg hy] at h ⊢
      cases tk with
      | tail id =>
        dsimp only at h ⊢
        cases hH : H[id]? with
        | none => rw [hH] at h; exact h.elim
        | some o => cases o <;> simp only [hH] at h ⊢; exact ⟨h.1, hk _ _ h.2⟩
      | none => exact h.elim
      | nil => exact h.imp (hk _ _) fun ⟨id, h1, h2⟩ => ⟨id, h1, hk _ _ h2⟩
      | full => exact h.imp (hk _ _) fun ⟨id, h1, h2⟩ => ⟨id, h1, hk _ _ h2⟩
  case appendS bytes t s x =>
    unfold appSK at h ⊢
    generalize ev e s = vs_ at h ⊢; generalize ev e x = vx at h ⊢; cases vs_ <;> cases vx <;> try exact h.elim
    rename_i xs tk ys
    dsimp only at h ⊢
    refine ⟨h.1, h.2.1, h.2.2.1, ?_⟩
    replace h := h.2.2.2
    by_cases hy : ys = []
    · rw [if_pos hy] at h ⊢; exact hk _ _ h
    · rw [if_neg hy] at h ⊢
      cases tk with
      | tail id =>
        dsimp only at h ⊢
        cases hH : H[id]? with
        | none => rw [hH] at h; exact h.elim
        | some o => cases o <;> simp only [hH] at h ⊢; exact ⟨h.1, hk _ _ h.2⟩
      | none => exact h.elim
      | nil => exact hk _ _ h
      | full => exact hk _ _ h
  case ssd x => generalize ev e x = vx at h ⊢; cases vx <;> first | exact h.elim | exact ⟨h.1, hk _ _ h.2⟩
  case ustr t p n =>
    generalize ev e p = vp at h ⊢; generalize ev e n = vn at h ⊢; cases vp <;> cases vn <;> try exact h.elim
    rename_i xs tk k m
    cases k <;> try exact h.elim
    dsimp only at h ⊢
    refine ⟨h.1, h.2.1, ?_⟩
    replace h := h.2.2
    cases hb : bytesA xs <;> simp only [hb] at h ⊢
    cases tk with
    | tail id =>
      dsimp only at h ⊢
      cases hH : H[id]? with
      | none => rw [hH] at h; exact h.elim
      | some o => cases o <;> simp only [hH] at h ⊢; exact ⟨h.1, hk _ _ h.2⟩
    | nil => exact hk _ _ h
    | none => exact h.elim
    | full => exact h.elim
  case callv f args =>
    cases hf : ev e f <;> simp only [hf] at h ⊢
    rename_i af fi ca
    cases af <;> try exact h.elim
    exact ACalls.mono h hc
  case panic x => generalize ev e x = vx at h ⊢; cases vx <;> first | exact h.elim | exact hp _ _ h

theorem xops_mono {L : Lnk} {l : List AO} {K K' : Env → Heap → Prop} {KP KP' : AVal → Heap → Prop} (hk : ∀ e H, K e H → K' e H) (hp : ∀ v H, KP v H → KP' v H) :
    ∀ {e : Env} {H : Heap}, xops L l e H K KP → xops L l e H K' KP' := by
  induction l with
  | nil => exact fun h => hk _ _ h
  | cons o os ih =>
    intro e H h
    simp only [xops] at h ⊢
    cases hg : o.guard with
    | none => simp only [hg] at h ⊢; exact stepOp_mono (fun v H' h => ih h) hp h
    | some p =>
      obtain ⟨t, want⟩ := p
      simp only [hg] at h ⊢
      cases he : e t <;> simp only [he] at h ⊢
      · rename_i b
        cases want <;> cases b <;> first | exact stepOp_mono (fun v H' h => ih h) hp h | exact ih h
      · rename_i vs
        cases vs with
        | nil => exact ih h
        | cons => exact False.elim h

theorem softStep_mono {L : Lnk} {q : AOp} {e : Env} {H0 H : Heap} {K K' : AVal → Heap → Prop} (hk : ∀ v H, K v H → K' v H) (h : softStep L q e H0 H K) : softStep L q e H0 H K' := by
  cases q <;> simp only [softStep] at h ⊢ <;> first
    | exact h.elim
    | exact hk _ _ h
    | exact ⟨h.1, hk _ _ h.2⟩
    | exact stepOp_mono hk (fun _ _ h => h) h
    | (obtain ⟨v, h1, h2⟩ := h; exact ⟨v, h1, hk _ _ h2⟩)
    | skip
  case load k a => refine ⟨h.1, ?_⟩; replace h := h.2; generalize loadAt H0 k (ev e a) = vx at h ⊢; cases vx <;> first | exact h.elim | exact hk _ _ h
  case callv f args =>
    cases hf : ev e f <;> simp only [hf] at h ⊢
    rename_i af fi ca
    cases af <;> try exact h.elim
    obtain ⟨v, h1, h2⟩ := h; exact ⟨v, h1, hk _ _ h2⟩

theorem xsoft_mono {L : Lnk} {H0 : Heap} {l : List AO} {K K' : Env → Heap → Prop} (hk : ∀ e H, K e H → K' e H) : ∀ {e : Env} {H : Heap}, xsoft L H0 l e H K → xsoft L H0 l e H K' := by
  induction l with
  | nil => exact fun h => hk _ _ h
  | cons o os ih =>
    intro e H h
    simp only [xsoft] at h ⊢
    cases hg : o.guard with
    | none => simp only [hg] at h ⊢; exact softStep_mono (fun v H' h => ih h) h
    | some p =>
      obtain ⟨t, want⟩ := p
      simp only [hg] at h ⊢
      cases he : e t <;> simp only [he] at h ⊢
      · rename_i b
        cases want <;> cases b <;> first | exact softStep_mono (fun v H' h => ih h) h | exact ih h
      · rename_i vs
        cases vs with
        | nil => exact ih h
        | cons => exact False.elim h

theorem lateK_mono {P P' : Heap → Prop} {q : AOp} {H : Heap} {K K' : Prop} (hp : P H → P' H) (hk : K → K') (h : lateK P q H K) : lateK P' q H K' := by
  cases q <;> simp only [lateK] at h ⊢ <;> first | exact hk h | exact ⟨hp h.1, hk h.2⟩

theorem xlate_mono {L : Lnk} {P P' : Heap → Prop} (hP : ∀ H, P H → P' H) {l : List AO} {K K' : Env → Heap → Prop} {KP KP' : AVal → Heap → Prop} (hk : ∀ e H, K e H → K' e H) (hp : ∀ v H, KP v H → KP' v H) :
    ∀ {e : Env} {H : Heap}, xlate L P l e H K KP → xlate L P' l e H K' KP' := by
  induction l with
  | nil => exact fun h => hk _ _ h
  | cons o os ih =>
    intro e H h
    simp only [xlate] at h ⊢
    cases hg : o.guard with
    | none => simp only [hg] at h ⊢; exact stepOp_mono (fun v H' h => lateK_mono (hP H') ih h) hp h
    | some p =>
      obtain ⟨t, want⟩ := p
      simp only [hg] at h ⊢
      cases he : e t <;> simp only [he] at h ⊢
      · rename_i b
        cases want <;> cases b <;> first | exact stepOp_mono (fun v H' h => lateK_mono (hP H') ih h) hp h | exact ih h
      · rename_i vs
        cases vs with
        | nil => exact ih h
        | cons => exact False.elim h

/-- Where no early read is in a call's way, a call need not keep anything. -/
theorem xlate_of {L : Lnk} {P : Heap → Prop} (hP : ∀ H, P H) {l : List AO} {K : Env → Heap → Prop} {KP : AVal → Heap → Prop} : ∀ {e : Env} {H : Heap}, xops L l e H K KP → xlate L P l e H K KP := by
  have hl : ∀ {q : AOp} {H : Heap} {K : Prop}, K → lateK P q H K := fun {q H K} h => by cases q <;> simp only [lateK] <;> first | exact h | exact ⟨hP _, h⟩
  induction l with
  | nil => exact fun h => h
  | cons o os ih =>
    intro e H h
    simp only [xops] at h
    simp only [xlate]
    cases hg : o.guard with
    | none => simp only [hg] at h ⊢; exact stepOp_mono (fun v H' h => hl (ih h)) (fun _ _ h => h) h
    | some p =>
      obtain ⟨t, want⟩ := p
      simp only [hg] at h ⊢
      cases he : e t <;> simp only [he] at h ⊢
      · rename_i b
        cases want <;> cases b <;> first | exact stepOp_mono (fun v H' h => hl (ih h)) (fun _ _ h => h) h | exact ih h
      · rename_i vs
        cases vs with
        | nil => exact ih h
        | cons => exact False.elim h

theorem xcode_mono {L : Lnk} {c : AC} : ∀ {e : Env} {H : Heap} {Q Q' : AExit → Env → Heap → Prop}, (∀ x e H, Q x e H → Q' x e H) → xcode L c e H Q → xcode L c e H Q' := by
  induction c with
  | skip => exact fun hq h => hq _ _ _ h
  | ops l => exact fun hq h => xops_mono (fun _ _ h => hq _ _ _ h) (fun _ _ h => hq _ _ _ h) h
  | draw soft hard => exact fun hq h => xsoft_mono (fun _ _ h => xops_mono (fun _ _ h => hq _ _ _ h) (fun _ _ h => hq _ _ _ h) h) h
  | drawc soft hard => exact fun hq h => xsoft_mono (fun _ _ h => xlate_mono (fun _ h => h) (fun _ _ h => hq _ _ _ h) (fun _ _ h => hq _ _ _ h) h) h
  | seq a b iha ihb =>
    intro e H Q Q' hq h
    refine iha (fun x e H h => ?_) h
    cases x with
    | normal => exact ihb hq h
    | _ => exact hq _ _ _ h
  | cond c a b iha ihb =>
    intro e H Q Q' hq h
    simp only [xcode] at h ⊢
    cases hc : ev e c <;> simp only [hc] at h ⊢
    rename_i b
    cases b
    · exact ihb hq h
    · exact iha hq h
  | block id c ih =>
    intro e H Q Q' hq h
    refine ih (fun x e H h => ?_) h
    cases x with
    | exit i =>
      simp only [blkQ] at h ⊢
      cases hb : i == id <;> simp only [hb] at h ⊢ <;> exact hq _ _ _ h
    | _ => exact hq _ _ _ h
  | loop c ih =>
    intro e H Q Q' hq h I hI hG
    refine h I (fun e H hc => hI e H (ih (fun x e H h => ?_) hc)) hG
    cases x with
    | normal => exact h
    | _ => exact hq _ _ _ h
  | exit id => exact fun hq h => hq _ _ _ h
  | ret => exact fun hq h => hq _ _ _ h
  | bad => exact fun _ h => h.elim

end Go.Ag
