/- The same condition, with values reckoned as soon as they are known (so that terms stay small). -/
import Derived.Test.YtljfbnbmcemdcaaGreatDoorAgSound
set_option linter.unusedVariables false
namespace Go.Ag
open Go

variable {L : Lnk}

/-- A value brought to its head form first. -/
def force (v : AVal) (K : AVal → Prop) : Prop := match v with
  | .undef => K .undef
  | .bool b => K (.bool b)
  | .int k n => K (.int k n)
  | .str s => K (.str s)
  | .ptr i o => K (.ptr i o)
  | .nilptr => K .nilptr
  | .lptr cs => K (.lptr cs)
  | .lst xs tk => K (.lst xs tk)
  | .arr i v o n => K (.arr i v o n)
  | .map i => K (.map i)
  | .nilmap => K .nilmap
  | .fn f a c => K (.fn f a c)
  | .nilfn => K .nilfn
  | .iface t x => K (.iface t x)
  | .niliface => K .niliface
  | .agg cs => K (.agg cs)
  | .tup vs => K (.tup vs)
  | .dptr xs tk => K (.dptr xs tk)

theorem force_eq (v : AVal) (K : AVal → Prop) : force v K = K v := by cases v <;> rfl

def evs (e : Env) : List AX → (List AVal → Prop) → Prop
  | [], K => K []
  | x :: xs, K => force (ev e x) fun v => evs e xs fun vs => K (v :: vs)

theorem evs_eq (e : Env) : ∀ (xs : List AX) (K : List AVal → Prop), evs e xs K = K (xs.map (ev e))
  | [], K => rfl
  | x :: xs, K => by simp only [evs, force_eq, evs_eq e xs, List.map_cons]

def okAll : List (Nat × Nat) → List AVal → Nat → Prop
  | [], _, _ => True
  | (o, k) :: ps, v :: vs, n => (okCells k v ∧ o + k ≤ n) ∧ okAll ps vs n
  | _, _, _ => False

def zipA : List (Nat × Nat) → List AVal → List (Nat × List AVal)
  | (o, _) :: ps, v :: vs => (o, v.cells) :: zipA ps vs
  | _, _ => []

theorem okAll_map (e : Env) (n : Nat) : ∀ (ps : List (Nat × Nat × AX)), okAll (ps.map fun p => (p.1, p.2.1)) (ps.map fun p => ev e p.2.2) n → ∀ p ∈ ps, okCells p.2.1 (ev e p.2.2) ∧ p.1 + p.2.1 ≤ n
  | [], _, p, hp => by cases hp
  | q :: ps, h, p, hp => by
    rcases List.mem_cons.1 hp with rfl | hp
    · exact h.1
    · exact okAll_map e n ps h.2 p hp
theorem zipA_map (e : Env) : ∀ (ps : List (Nat × Nat × AX)), zipA (ps.map fun p => (p.1, p.2.1)) (ps.map fun p => ev e p.2.2) = ps.map fun p => (p.1, (ev e p.2.2).cells)
  | [] => rfl
  | q :: ps => by simp only [List.map_cons, zipA, zipA_map e ps]

def stepF (L : Lnk) (q : AOp) (e : Env) (H : Heap) (K KP : AVal → Heap → Prop) : Prop :=
  match q with
  | .build z parts => evs e (parts.map (·.2.2)) fun vs => okAll (parts.map fun p => (p.1, p.2.1)) vs z.length ∧ K (.agg (fillA z (zipA (parts.map fun p => (p.1, p.2.1)) vs))) H
  | .lit k _ _ _ parts => evs e (parts.map (·.2)) fun vs => (∀ v ∈ vs, okCells k v) ∧ K (.lst vs .full) H
  | .mkI t x => force (ev e x) fun v => K (.iface t v) H
  | .mkF f fi ca => evs e fi fun a => evs e ca fun c => K (.fn f a c) H
  | .append k bytes t s x => force (ev e s) fun s => force (ev e x) fun x => appK k bytes t s x H K
  | .appendS bytes t s x => force (ev e s) fun s => force (ev e x) fun x => appSK bytes t s x H K
  | .load k a => force (ev e a) fun a => match loadAt H k a with
    | some v => K v H
    | none => False
  | .store k a x => force (ev e a) fun a => force (ev e x) fun x => okCells k x ∧ match storeAt H k a x with
    | some H' => K .undef H'
    | none => False
  | .call f args => evs e args fun as => ACalls L f as H (contR K KP)
  | .box t x => force (ev e x) fun v => v.cells.all oneA = true ∧ K (.ptr H.length 0) (H ++ [.cells v.cells t])
  | q => stepOp L q e H K KP

theorem stepF_sound {q : AOp} {e : Env} {H : Heap} {K KP : AVal → Heap → Prop} (h : stepF L q e H K KP) : stepOp L q e H K KP := by
  cases q <;> first | exact h | skip
  case build z parts =>
    simp only [stepF, evs_eq, List.map_map, Function.comp_def] at h
    simp only [stepOp]
    exact ⟨okAll_map e _ parts h.1, by rw [← zipA_map]; exact h.2⟩
  case lit k _ _ _ parts =>
    simp only [stepF, evs_eq, List.map_map, Function.comp_def] at h
    simp only [stepOp]
    exact ⟨fun p hp => h.1 _ (List.mem_map.2 ⟨p, hp, rfl⟩), h.2⟩
  case mkI t x => simp only [stepF, force_eq] at h; exact h
  case mkF f fi ca => simp only [stepF, evs_eq] at h; exact h
  case append k bytes t s x => simp only [stepF, force_eq] at h; exact h
  case appendS bytes t s x => simp only [stepF, force_eq] at h; exact h
  case load k a => simp only [stepF, force_eq] at h; exact h
  case store k a x => simp only [stepF, force_eq] at h; exact h
  case call f args => simp only [stepF, evs_eq] at h; exact h
  case box t x => simp only [stepF, force_eq] at h; exact h

def xopsF (L : Lnk) : List AO → Env → Heap → (Env → Heap → Prop) → (AVal → Heap → Prop) → Prop
  | [], e, H, K, _ => K e H
  | o :: os, e, H, K, KP => match o.guard with
    | none => stepF L o.op e H (fun v H' => force v fun v => xopsF L os (putA e o.dst v) H' K KP) KP
    | some (t, want) => match e t with
      | .bool b => match want, b with
        | true, true => stepF L o.op e H (fun v H' => force v fun v => xopsF L os (putA e o.dst v) H' K KP) KP
        | false, false => stepF L o.op e H (fun v H' => force v fun v => xopsF L os (putA e o.dst v) H' K KP) KP
        | true, false => xopsF L os (putA e o.dst (.tup [])) H K KP
        | false, true => xopsF L os (putA e o.dst (.tup [])) H K KP
      | .tup [] => xopsF L os (putA e o.dst (.tup [])) H K KP
      | _ => False

theorem xopsF_sound {K : Env → Heap → Prop} {KP : AVal → Heap → Prop} : ∀ (l : List AO) (e : Env) (H : Heap), xopsF L l e H K KP → xops L l e H K KP
  | [], e, H, h => h
  | o :: os, e, H, h => by
    have go : stepF L o.op e H (fun v H' => force v fun v => xopsF L os (putA e o.dst v) H' K KP) KP → stepOp L o.op e H (fun v H' => xops L os (putA e o.dst v) H' K KP) KP := fun h =>
      stepOp_mono (fun v H' h => by rw [force_eq] at h; exact xopsF_sound os _ _ h) (fun _ _ h => h) (stepF_sound h)
    simp only [xopsF] at h
    simp only [xops]
    cases hg : o.guard with
    | none => simp only [hg] at h ⊢; exact go h
    | some p =>
      obtain ⟨t, want⟩ := p
      simp only [hg] at h ⊢
      cases he : e t <;> simp only [he] at h ⊢
      · rename_i b
        cases want <;> cases b <;> first | exact go h | exact xopsF_sound os _ _ h
      · rename_i vs
        cases vs with
        | nil => exact xopsF_sound os _ _ h
        | cons => exact False.elim h

def xlateF (L : Lnk) (P : Heap → Prop) : List AO → Env → Heap → (Env → Heap → Prop) → (AVal → Heap → Prop) → Prop
  | [], e, H, K, _ => K e H
  | o :: os, e, H, K, KP => match o.guard with
    | none => stepF L o.op e H (fun v H' => force v fun v => lateK P o.op H' (xlateF L P os (putA e o.dst v) H' K KP)) KP
    | some (t, want) => match e t with
      | .bool b => match want, b with
        | true, true => stepF L o.op e H (fun v H' => force v fun v => lateK P o.op H' (xlateF L P os (putA e o.dst v) H' K KP)) KP
        | false, false => stepF L o.op e H (fun v H' => force v fun v => lateK P o.op H' (xlateF L P os (putA e o.dst v) H' K KP)) KP
        | true, false => xlateF L P os (putA e o.dst (.tup [])) H K KP
        | false, true => xlateF L P os (putA e o.dst (.tup [])) H K KP
      | .tup [] => xlateF L P os (putA e o.dst (.tup [])) H K KP
      | _ => False

theorem xlateF_sound {P : Heap → Prop} {K : Env → Heap → Prop} {KP : AVal → Heap → Prop} : ∀ (l : List AO) (e : Env) (H : Heap), xlateF L P l e H K KP → xlate L P l e H K KP
  | [], e, H, h => h
  | o :: os, e, H, h => by
    have go : stepF L o.op e H (fun v H' => force v fun v => lateK P o.op H' (xlateF L P os (putA e o.dst v) H' K KP)) KP → stepOp L o.op e H (fun v H' => lateK P o.op H' (xlate L P os (putA e o.dst v) H' K KP)) KP := fun h =>
      stepOp_mono (fun v H' h => by rw [force_eq] at h; exact lateK_mono (fun h => h) (xlateF_sound os _ _) h) (fun _ _ h => h) (stepF_sound h)
    simp only [xlateF] at h
    simp only [xlate]
    cases hg : o.guard with
    | none => simp only [hg] at h ⊢; exact go h
    | some p =>
      obtain ⟨t, want⟩ := p
      simp only [hg] at h ⊢
      cases he : e t <;> simp only [he] at h ⊢
      · rename_i b
        cases want <;> cases b <;> first | exact go h | exact xlateF_sound os _ _ h
      · rename_i vs
        cases vs with
        | nil => exact xlateF_sound os _ _ h
        | cons => exact False.elim h

def softF (L : Lnk) (q : AOp) (e : Env) (H0 H : Heap) (K : AVal → Heap → Prop) : Prop :=
  match q with
  | .alloc z t => K (.ptr H.length 0) (H ++ [.cells z t])
  | .box t x => force (ev e x) fun v => v.cells.all oneA = true ∧ K (.ptr H.length 0) (H ++ [.cells v.cells t])
  | .load k a => force (ev e a) fun a => ptrOK H0.length a = true ∧ match loadAt H0 k a with
    | some v => K v H
    | none => False
  | .call f args => evs e args fun as => ∃ v, (∀ H', agree H0.length H0 H' → ACalls L f as H' fun r H'' => r = .ret v ∧ H'' = H') ∧ K v H
  | .callv f args => softStep L (.callv f args) e H0 H K
  | .store _ _ _ | .append _ _ _ _ _ | .appendS _ _ _ _ | .ustr _ _ _ | .panic _ | .convA2S _ | .make _ _ _ => False
  | q => stepF L q e H K fun _ _ => False

theorem softF_sound {q : AOp} {e : Env} {H0 H : Heap} {K : AVal → Heap → Prop} (h : softF L q e H0 H K) : softStep L q e H0 H K := by
  cases q <;> first | exact h | exact stepF_sound h | skip
  case box t x => simp only [softF, force_eq] at h; exact h
  case load k a => simp only [softF, force_eq] at h; exact h
  case call f args => simp only [softF, evs_eq] at h; exact h
  case build z ps => exact stepF_sound (show stepF L (.build z ps) e H K fun _ _ => False from h)
  case lit k b z m ps => exact stepF_sound (show stepF L (.lit k b z m ps) e H K fun _ _ => False from h)
  case mkI t x => exact stepF_sound (show stepF L (.mkI t x) e H K fun _ _ => False from h)
  case mkF f a c => exact stepF_sound (show stepF L (.mkF f a c) e H K fun _ _ => False from h)

def xsoftF (L : Lnk) (H0 : Heap) : List AO → Env → Heap → (Env → Heap → Prop) → Prop
  | [], e, H, K => K e H
  | o :: os, e, H, K => match o.guard with
    | none => softF L o.op e H0 H (fun v H' => force v fun v => xsoftF L H0 os (putA e o.dst v) H' K)
    | some (t, want) => match e t with
      | .bool b => match want, b with
        | true, true => softF L o.op e H0 H (fun v H' => force v fun v => xsoftF L H0 os (putA e o.dst v) H' K)
        | false, false => softF L o.op e H0 H (fun v H' => force v fun v => xsoftF L H0 os (putA e o.dst v) H' K)
        | true, false => xsoftF L H0 os (putA e o.dst (.tup [])) H K
        | false, true => xsoftF L H0 os (putA e o.dst (.tup [])) H K
      | .tup [] => xsoftF L H0 os (putA e o.dst (.tup [])) H K
      | _ => False

theorem xsoftF_sound {H0 : Heap} {K : Env → Heap → Prop} : ∀ (l : List AO) (e : Env) (H : Heap), xsoftF L H0 l e H K → xsoft L H0 l e H K
  | [], e, H, h => h
  | o :: os, e, H, h => by
    have go : softF L o.op e H0 H (fun v H' => force v fun v => xsoftF L H0 os (putA e o.dst v) H' K) → softStep L o.op e H0 H (fun v H' => xsoft L H0 os (putA e o.dst v) H' K) := fun h =>
      softStep_mono (fun v H' h => by rw [force_eq] at h; exact xsoftF_sound os _ _ h) (softF_sound h)
    simp only [xsoftF] at h
    simp only [xsoft]
    cases hg : o.guard with
    | none => simp only [hg] at h ⊢; exact go h
    | some p =>
      obtain ⟨t, want⟩ := p
      simp only [hg] at h ⊢
      cases he : e t <;> simp only [he] at h ⊢
      · rename_i b
        cases want <;> cases b <;> first | exact go h | exact xsoftF_sound os _ _ h
      · rename_i vs
        cases vs with
        | nil => exact xsoftF_sound os _ _ h
        | cons => exact False.elim h

def xcodeF (L : Lnk) : AC → Env → Heap → XPost → Prop
  | .skip, e, H, Q => Q .normal e H
  | .ops l, e, H, Q => xopsF L l e H (fun e' H' => Q .normal e' H') (fun v H' => Q (.pan v) e H')
  | .draw soft hard, e, H, Q => xsoftF L H soft e H (fun e' H' => xopsF L hard e' H' (fun e'' H'' => Q .normal e'' H'') (fun v H'' => Q (.pan v) e' H''))
  | .drawc soft hard, e, H, Q => xsoftF L H soft e H (fun e' H' => xlateF L (stays (loadsOf soft) e' H) hard e' H' (fun e'' H'' => Q .normal e'' H'') (fun v H'' => Q (.pan v) e' H''))
  | .seq a b, e, H, Q => xcodeF L a e H (seqQ (fun e' H' => xcodeF L b e' H' Q) Q)
  | .cond c a b, e, H, Q => match ev e c with
    | .bool t => match t with
      | true => xcodeF L a e H Q
      | false => xcodeF L b e H Q
    | _ => False
  | .block id c, e, H, Q => xcodeF L c e H (blkQ id Q)
  | .loop c, e, H, Q => ∀ I : Env → Heap → Prop, (∀ e H, xcodeF L c e H (seqQ I Q) → I e H) → GC L H.length I → I e H
  | .exit id, e, H, Q => Q (.exit id) e H
  | .ret, e, H, Q => Q .ret e H
  | .bad, _, _, _ => False

theorem xcodeF_sound : ∀ (c : AC) (e : Env) (H : Heap) (Q : XPost), xcodeF L c e H Q → xcode L c e H Q := by
  intro c
  induction c with
  | skip => exact fun e H Q h => h
  | ops l => exact fun e H Q h => xopsF_sound l e H h
  | draw soft hard => exact fun e H Q h => xsoft_mono (fun _ _ h => xopsF_sound hard _ _ h) (xsoftF_sound soft e H h)
  | drawc soft hard => exact fun e H Q h => xsoft_mono (fun _ _ h => xlateF_sound hard _ _ h) (xsoftF_sound soft e H h)
  | seq a b iha ihb =>
    intro e H Q h
    have h' : xcodeF L a e H (seqQ (fun e' H' => xcodeF L b e' H' Q) Q) := h
    show xcode L a e H (seqQ (fun e' H' => xcode L b e' H' Q) Q)
    refine xcode_mono (Q := seqQ (fun e' H' => xcodeF L b e' H' Q) Q) (fun x e H h => ?_) (iha _ _ _ h')
    cases x with
    | normal => exact ihb _ _ _ h
    | _ => exact h
  | cond c a b iha ihb =>
    intro e H Q h
    simp only [xcodeF] at h
    simp only [xcode]
    cases hc : ev e c <;> simp only [hc] at h ⊢
    rename_i t
    cases t
    · exact ihb _ _ _ h
    · exact iha _ _ _ h
  | block id c ih => exact fun e H Q h => ih e H _ h
  | loop c ih =>
    intro e H Q h I hI hG
    exact h I (fun e H hc => hI e H (ih _ _ _ hc)) hG
  | exit id => exact fun e H Q h => h
  | ret => exact fun e H Q h => h
  | bad => exact fun e H Q h => h

def xfuncF (L : Lnk) (af : AFunc) (args : List AVal) (H : Heap) (Q : ARet → Heap → Prop) : Prop :=
  xcodeF L af.body (fun i => args.getD i .undef) H (funQ af.results Q)

/-- A function's contract out of its code, values reckoned at once. -/
theorem acallsF {T : Tab} {f : Nat} {af : AFunc} (hf : T.has f af) {args : List AVal} {H : Heap} {Q : ARet → Heap → Prop} (hlen : args.length ≤ af.ntmps) (h : xfuncF T.L af args H Q) : ACalls T.L f args H Q :=
  acalls_of hf hlen (xcodeF_sound _ _ _ _ h)

end Go.Ag
