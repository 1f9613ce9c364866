/- The same condition once more: what can be decided of values is decided on the way. -/
import Derived.Test.YtljfbnbmcemdcaaGreatDoorAgFast
set_option linter.unusedVariables false
namespace Go.Ag
open Go

variable {L : Lnk}

def allOne : List AVal → Bool
  | [] => true
  | x :: xs => match oneA x with
    | true => allOne xs
    | false => false
def countIs : List AVal → Nat → Bool
  | [], 0 => true
  | _ :: xs, n + 1 => countIs xs n
  | _, _ => false
def okB (k : Nat) (x : AVal) : Bool := match countIs x.cells k with
  | true => allOne x.cells
  | false => false
def okVsB (k : Nat) : List AVal → Bool
  | [] => true
  | v :: vs => match okB k v with
    | true => okVsB k vs
    | false => false
def okAllB : List (Nat × Nat) → List AVal → Nat → Bool
  | [], _, _ => true
  | (o, k) :: ps, v :: vs, n => match okB k v with
    | true => match Nat.ble (o + k) n with
      | true => okAllB ps vs n
      | false => false
    | false => false
  | _, _, _ => false
theorem allOne_ok : ∀ {xs : List AVal}, allOne xs = true → xs.all oneA = true
  | [], _ => rfl
  | x :: xs, h => by
    simp only [allOne] at h
    cases hx : oneA x <;> simp only [hx] at h
    · cases h
    · simp [hx, allOne_ok h]
theorem countIs_ok : ∀ {xs : List AVal} {n : Nat}, countIs xs n = true → xs.length = n
  | [], 0, _ => rfl
  | _ :: xs, n + 1, h => by simp [countIs_ok (xs := xs) h]
  | [], _ + 1, h => by cases h
  | _ :: _, 0, h => by cases h
theorem okB_ok {k : Nat} {x : AVal} (h : okB k x = true) : okCells k x := by
  unfold okB at h
  cases hc : countIs x.cells k <;> simp only [hc] at h
  · cases h
  · exact ⟨countIs_ok hc, allOne_ok h⟩
theorem okVsB_ok {k : Nat} : ∀ {vs : List AVal}, okVsB k vs = true → ∀ v ∈ vs, okCells k v
  | [], _, v, hv => by cases hv
  | u :: us, h, v, hv => by
    simp only [okVsB] at h
    cases hu : okB k u <;> simp only [hu] at h
    · cases h
    · rcases List.mem_cons.1 hv with rfl | hv
      · exact okB_ok hu
      · exact okVsB_ok h v hv
theorem okAllB_ok : ∀ {ps : List (Nat × Nat)} {vs : List AVal} {n : Nat}, okAllB ps vs n = true → okAll ps vs n
  | [], _, _, _ => trivial
  | (o, k) :: ps, [], n, h => by cases h
  | (o, k) :: ps, v :: vs, n, h => by
    simp only [okAllB] at h
    cases hv : okB k v <;> simp only [hv] at h
    · cases h
    · cases hn : Nat.ble (o + k) n <;> simp only [hn] at h
      · cases h
      · exact ⟨⟨okB_ok hv, Nat.le_of_ble_eq_true hn⟩, okAllB_ok h⟩

def stepG (L : Lnk) (q : AOp) (e : Env) (H : Heap) (K KP : AVal → Heap → Prop) : Prop :=
  match q with
  | .build z parts => evs e (parts.map (·.2.2)) fun vs => match okAllB (parts.map fun p => (p.1, p.2.1)) vs z.length with
    | true => K (.agg (fillA z (zipA (parts.map fun p => (p.1, p.2.1)) vs))) H
    | false => False
  | .lit k _ _ _ parts => evs e (parts.map (·.2)) fun vs => match okVsB k vs with
    | true => K (.lst vs .full) H
    | false => False
  | .mkI t x => force (ev e x) fun v => K (.iface t v) H
  | .mkF f fi ca => evs e fi fun a => evs e ca fun c => K (.fn f a c) H
  | .append k bytes t s x => force (ev e s) fun s => force (ev e x) fun x => appK k bytes t s x H K
  | .appendS bytes t s x => force (ev e s) fun s => force (ev e x) fun x => appSK bytes t s x H K
  | .load k a => force (ev e a) fun a => match loadAt H k a with
    | some v => K v H
    | none => False
  | .store k a x => force (ev e a) fun a => force (ev e x) fun x => match okB k x with
    | true => match storeAt H k a x with
      | some H' => K .undef H'
      | none => False
    | false => False
  | .call f args => evs e args fun as => ACalls L f as H (contR K KP)
  | .box t x => force (ev e x) fun v => match allOne v.cells with
    | true => K (.ptr H.length 0) (H ++ [.cells v.cells t])
    | false => False
  | q => stepOp L q e H K KP

theorem stepG_sound {q : AOp} {e : Env} {H : Heap} {K KP : AVal → Heap → Prop} (h : stepG L q e H K KP) : stepOp L q e H K KP := by
  refine stepF_sound ?_
  cases q <;> first | exact h | skip
  case build z parts =>
    simp only [stepG, evs_eq] at h
    simp only [stepF, evs_eq]
    cases hb : okAllB (parts.map fun p => (p.1, p.2.1)) ((parts.map (·.2.2)).map (ev e)) z.length <;> simp only [hb] at h
    exact ⟨okAllB_ok hb, h⟩
  case lit k _ _ _ parts =>
    simp only [stepG, evs_eq] at h
    simp only [stepF, evs_eq]
    cases hb : okVsB k ((parts.map (·.2)).map (ev e)) <;> simp only [hb] at h
    exact ⟨okVsB_ok hb, h⟩
  case store k a x =>
    simp only [stepG, force_eq] at h
    simp only [stepF, force_eq]
    cases hb : okB k (ev e x) <;> simp only [hb] at h
    exact ⟨okB_ok hb, h⟩
  case box t x =>
    simp only [stepG, force_eq] at h
    simp only [stepF, force_eq]
    cases hb : allOne (ev e x).cells <;> simp only [hb] at h
    exact ⟨allOne_ok hb, h⟩

def xopsG (L : Lnk) : List AO → Env → Heap → (Env → Heap → Prop) → (AVal → Heap → Prop) → Prop
  | [], e, H, K, _ => K e H
  | o :: os, e, H, K, KP => match o.guard with
    | none => stepG L o.op e H (fun v H' => force v fun v => xopsG L os (putA e o.dst v) H' K KP) KP
    | some (t, want) => match e t with
      | .bool b => match want, b with
        | true, true => stepG L o.op e H (fun v H' => force v fun v => xopsG L os (putA e o.dst v) H' K KP) KP
        | false, false => stepG L o.op e H (fun v H' => force v fun v => xopsG L os (putA e o.dst v) H' K KP) KP
        | true, false => xopsG L os (putA e o.dst (.tup [])) H K KP
        | false, true => xopsG L os (putA e o.dst (.tup [])) H K KP
      | .tup [] => xopsG L os (putA e o.dst (.tup [])) H K KP
      | _ => False

theorem xopsG_sound {K : Env → Heap → Prop} {KP : AVal → Heap → Prop} : ∀ (l : List AO) (e : Env) (H : Heap), xopsG L l e H K KP → xops L l e H K KP
  | [], e, H, h => h
  | o :: os, e, H, h => by
    have go : stepG L o.op e H (fun v H' => force v fun v => xopsG L os (putA e o.dst v) H' K KP) KP → stepOp L o.op e H (fun v H' => xops L os (putA e o.dst v) H' K KP) KP := fun h =>
      stepOp_mono (fun v H' h => by rw [force_eq] at h; exact xopsG_sound os _ _ h) (fun _ _ h => h) (stepG_sound h)
    simp only [xopsG] at h
    simp only [xops]
    cases hg : o.guard with
    | none => simp only [hg] at h ⊢; exact go h
    | some p =>
      obtain ⟨t, want⟩ := p
      simp only [hg] at h ⊢
      cases he : e t <;> simp only [he] at h ⊢
      · rename_i b
        cases want <;> cases b <;> first | exact go h | exact xopsG_sound os _ _ h
      · rename_i vs
        cases vs with
        | nil => exact xopsG_sound os _ _ h
        | cons => exact False.elim h

def xlateG (L : Lnk) (P : Heap → Prop) : List AO → Env → Heap → (Env → Heap → Prop) → (AVal → Heap → Prop) → Prop
  | [], e, H, K, _ => K e H
  | o :: os, e, H, K, KP => match o.guard with
    | none => stepG L o.op e H (fun v H' => force v fun v => lateK P o.op H' (xlateG L P os (putA e o.dst v) H' K KP)) KP
    | some (t, want) => match e t with
      | .bool b => match want, b with
        | true, true => stepG L o.op e H (fun v H' => force v fun v => lateK P o.op H' (xlateG L P os (putA e o.dst v) H' K KP)) KP
        | false, false => stepG L o.op e H (fun v H' => force v fun v => lateK P o.op H' (xlateG L P os (putA e o.dst v) H' K KP)) KP
        | true, false => xlateG L P os (putA e o.dst (.tup [])) H K KP
        | false, true => xlateG L P os (putA e o.dst (.tup [])) H K KP
      | .tup [] => xlateG L P os (putA e o.dst (.tup [])) H K KP
      | _ => False

theorem xlateG_sound {P : Heap → Prop} {K : Env → Heap → Prop} {KP : AVal → Heap → Prop} : ∀ (l : List AO) (e : Env) (H : Heap), xlateG L P l e H K KP → xlate L P l e H K KP
  | [], e, H, h => h
  | o :: os, e, H, h => by
    have go : stepG L o.op e H (fun v H' => force v fun v => lateK P o.op H' (xlateG L P os (putA e o.dst v) H' K KP)) KP → stepOp L o.op e H (fun v H' => lateK P o.op H' (xlate L P os (putA e o.dst v) H' K KP)) KP := fun h =>
      stepOp_mono (fun v H' h => by rw [force_eq] at h; exact lateK_mono (fun h => h) (xlateG_sound os _ _) h) (fun _ _ h => h) (stepG_sound h)
    simp only [xlateG] at h
    simp only [xlate]
    cases hg : o.guard with
    | none => simp only [hg] at h ⊢; exact go h
    | some p =>
      obtain ⟨t, want⟩ := p
      simp only [hg] at h ⊢
      cases he : e t <;> simp only [he] at h ⊢
      · rename_i b
        cases want <;> cases b <;> first | exact go h | exact xlateG_sound os _ _ h
      · rename_i vs
        cases vs with
        | nil => exact xlateG_sound os _ _ h
        | cons => exact False.elim h

def softG (L : Lnk) (q : AOp) (e : Env) (H0 H : Heap) (K : AVal → Heap → Prop) : Prop :=
  match q with
  | .alloc z t => K (.ptr H.length 0) (H ++ [.cells z t])
  | .box t x => force (ev e x) fun v => match allOne v.cells with
    | true => K (.ptr H.length 0) (H ++ [.cells v.cells t])
    | false => False
  | .load k a => force (ev e a) fun a => match ptrOK H0.length a with
    | true => match loadAt H0 k a with
      | some v => K v H
      | none => False
    | false => False
  | .call f args => evs e args fun as => ∃ v, (∀ H', agree H0.length H0 H' → ACalls L f as H' fun r H'' => r = .ret v ∧ H'' = H') ∧ K v H
  | .callv f args => softStep L (.callv f args) e H0 H K
  | .store _ _ _ | .append _ _ _ _ _ | .appendS _ _ _ _ | .ustr _ _ _ | .panic _ | .convA2S _ | .make _ _ _ => False
  | q => stepG L q e H K fun _ _ => False

theorem softG_sound {q : AOp} {e : Env} {H0 H : Heap} {KH : AVal → Heap → Prop} (h : softG L q e H0 H KH) : softStep L q e H0 H KH := by
  cases q <;> first | exact h | exact stepG_sound h | skip
  case box t x =>
    simp only [softG, force_eq] at h
    simp only [softStep]
    cases hb : allOne (ev e x).cells <;> simp only [hb] at h
    exact ⟨allOne_ok hb, h⟩
  case load k a =>
    simp only [softG, force_eq] at h
    simp only [softStep]
    cases hb : ptrOK H0.length (ev e a) <;> simp only [hb] at h
    exact ⟨rfl, h⟩
  case call f args => simp only [softG, evs_eq] at h; exact h
  case build z ps => exact stepG_sound (show stepG L (.build z ps) e H KH fun _ _ => False from h)
  case lit k b z m ps => exact stepG_sound (show stepG L (.lit k b z m ps) e H KH fun _ _ => False from h)
  case mkI t x => exact stepG_sound (show stepG L (.mkI t x) e H KH fun _ _ => False from h)
  case mkF f a c => exact stepG_sound (show stepG L (.mkF f a c) e H KH fun _ _ => False from h)

def xsoftG (L : Lnk) (H0 : Heap) : List AO → Env → Heap → (Env → Heap → Prop) → Prop
  | [], e, H, K => K e H
  | o :: os, e, H, K => match o.guard with
    | none => softG L o.op e H0 H (fun v H' => force v fun v => xsoftG L H0 os (putA e o.dst v) H' K)
    | some (t, want) => match e t with
      | .bool b => match want, b with
        | true, true => softG L o.op e H0 H (fun v H' => force v fun v => xsoftG L H0 os (putA e o.dst v) H' K)
        | false, false => softG L o.op e H0 H (fun v H' => force v fun v => xsoftG L H0 os (putA e o.dst v) H' K)
        | true, false => xsoftG L H0 os (putA e o.dst (.tup [])) H K
        | false, true => xsoftG L H0 os (putA e o.dst (.tup [])) H K
      | .tup [] => xsoftG L H0 os (putA e o.dst (.tup [])) H K
      | _ => False

theorem xsoftG_sound {H0 : Heap} {K : Env → Heap → Prop} : ∀ (l : List AO) (e : Env) (H : Heap), xsoftG L H0 l e H K → xsoft L H0 l e H K
  | [], e, H, h => h
  | o :: os, e, H, h => by
    have go : softG L o.op e H0 H (fun v H' => force v fun v => xsoftG L H0 os (putA e o.dst v) H' K) → softStep L o.op e H0 H (fun v H' => xsoft L H0 os (putA e o.dst v) H' K) := fun h =>
      softStep_mono (fun v H' h => by rw [force_eq] at h; exact xsoftG_sound os _ _ h) (softG_sound h)
    simp only [xsoftG] at h
    simp only [xsoft]
    cases hg : o.guard with
    | none => simp only [hg] at h ⊢; exact go h
    | some p =>
      obtain ⟨t, want⟩ := p
      simp only [hg] at h ⊢
      cases he : e t <;> simp only [he] at h ⊢
      · rename_i b
        cases want <;> cases b <;> first | exact go h | exact xsoftG_sound os _ _ h
      · rename_i vs
        cases vs with
        | nil => exact xsoftG_sound os _ _ h
        | cons => exact False.elim h

def xcodeG (L : Lnk) : AC → Env → Heap → XPost → Prop
  | .skip, e, H, Q => Q .normal e H
  | .ops l, e, H, Q => xopsG L l e H (fun e' H' => Q .normal e' H') (fun v H' => Q (.pan v) e H')
  | .draw soft hard, e, H, Q => xsoftG L H soft e H (fun e' H' => xopsG L hard e' H' (fun e'' H'' => Q .normal e'' H'') (fun v H'' => Q (.pan v) e' H''))
  | .drawc soft hard, e, H, Q => xsoftG L H soft e H (fun e' H' => xlateG L (stays (loadsOf soft) e' H) hard e' H' (fun e'' H'' => Q .normal e'' H'') (fun v H'' => Q (.pan v) e' H''))
  | .seq a b, e, H, Q => xcodeG L a e H (seqQ (fun e' H' => xcodeG L b e' H' Q) Q)
  | .cond c a b, e, H, Q => match ev e c with
    | .bool t => match t with
      | true => xcodeG L a e H Q
      | false => xcodeG L b e H Q
    | _ => False
  | .block id c, e, H, Q => xcodeG L c e H (blkQ id Q)
  | .loop c, e, H, Q => ∀ I : Env → Heap → Prop, (∀ e H, xcodeG L c e H (seqQ I Q) → I e H) → GC L H.length I → I e H
  | .exit id, e, H, Q => Q (.exit id) e H
  | .ret, e, H, Q => Q .ret e H
  | .bad, _, _, _ => False

theorem xcodeG_sound : ∀ (c : AC) (e : Env) (H : Heap) (Q : XPost), xcodeG L c e H Q → xcode L c e H Q := by
  intro c
  induction c with
  | skip => exact fun e H Q h => h
  | ops l => exact fun e H Q h => xopsG_sound l e H h
  | draw soft hard => exact fun e H Q h => xsoft_mono (fun _ _ h => xopsG_sound hard _ _ h) (xsoftG_sound soft e H h)
  | drawc soft hard => exact fun e H Q h => xsoft_mono (fun _ _ h => xlateG_sound hard _ _ h) (xsoftG_sound soft e H h)
  | seq a b iha ihb =>
    intro e H Q h
    have h' : xcodeG L a e H (seqQ (fun e' H' => xcodeG L b e' H' Q) Q) := h
    show xcode L a e H (seqQ (fun e' H' => xcode L b e' H' Q) Q)
    refine xcode_mono (Q := seqQ (fun e' H' => xcodeG L b e' H' Q) Q) (fun x e H h => ?_) (iha _ _ _ h')
    cases x with
    | normal => exact ihb _ _ _ h
    | _ => exact h
  | cond c a b iha ihb =>
    intro e H Q h
    simp only [xcodeG] at h
    simp only [xcode]
    cases hc : ev e c <;> simp only [hc] at h ⊢
    rename_i t
    cases t
    · exact ihb _ _ _ h
    · exact iha _ _ _ h
  | block id c ih => exact fun e H Q h => ih e H _ h
  | loop c ih =>
    intro e H Q h I hI hG
    exact h I (fun e H hc => hI e H (ih _ _ _ hc)) hG
  | exit id => exact fun e H Q h => h
  | ret => exact fun e H Q h => h
  | bad => exact fun e H Q h => h

def xfuncG (L : Lnk) (af : AFunc) (args : List AVal) (H : Heap) (Q : ARet → Heap → Prop) : Prop :=
  xcodeG L af.body (fun i => args.getD i .undef) H (funQ af.results Q)

/-- A function's contract out of its code, values reckoned at once. -/
theorem acallsG {T : Tab} {f : Nat} {af : AFunc} (hf : T.has f af) {args : List AVal} {H : Heap} {Q : ARet → Heap → Prop} (hlen : args.length ≤ af.ntmps) (h : xfuncG T.L af args H Q) : ACalls T.L f args H Q :=
  acalls_of hf hlen (xcodeG_sound _ _ _ _ h)

end Go.Ag
