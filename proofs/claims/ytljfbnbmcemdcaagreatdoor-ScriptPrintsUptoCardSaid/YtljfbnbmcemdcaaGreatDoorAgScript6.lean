/- Package script: Print. -/
import Derived.Test.YtljfbnbmcemdcaaGreatDoorAgScript5
set_option linter.unusedVariables false
namespace Go.Ag
open Go

variable {T : Tab} {L : Lnk}

def printF (Y : ScriptLib5 L) : List StepA → Option (List UInt8)
  | [] => some []
  | x :: l => if checkA Y.toScriptLib4 x = 0 then (printF Y l).map (lineA Y x ++ ·) else none

def printV : Option (List UInt8) → AVal
  | some t => .tup [.str t, .int .i64 0]
  | none => .tup [.str [], .int .i64 1]

theorem low_printV (n : Nat) (r : Option (List UInt8)) : Low n (printV r) := by
  cases r <;> exact .tup _ fun x hx => by simp only [List.mem_cons, List.not_mem_nil, or_false] at hx; rcases hx with rfl | rfl <;> constructor

theorem bld_push {n : Nat} {H : Heap} {id : Nat} {bs : List UInt8} (h : BldAt n H id bs) {H' : Heap} (hk : ∀ (i : Nat) (o : AObj), H[i]? = some o → H'[i]? = some o) : BldAt n H' id bs := by
  obtain ⟨h0, p, tk, h1, h2, h3⟩ := h
  refine ⟨h0, p, tk, hk _ _ h1, h2, ?_⟩
  rcases h3 with h3 | ⟨tid, e1, e2, e3, e4, e5⟩
  · exact .inl h3
  · exact .inr ⟨tid, e1, e2, e3, hk _ _ e4, e5⟩

theorem print_spec (F : ScriptFns T) (l : List StepA) (hok : ∀ x ∈ l, x.ok) (hb : (l.flatMap (lineA F.Y)).length ≤ 2 ^ 40) (hl : l.length ≤ 2 ^ 40) : Pure T.L 10 [.lst (l.map StepA.av) .none] (printV (printF F.Y l)) := by
  refine Pure.run (fun y hy => by simp only [List.mem_singleton] at hy; subst hy; exact low_avs 0 l) (low_printV 0 _) (acallsF F.h10 (by simp [c_10]) ?_)
  conv => whnf
  intro I hI hG
  generalize hR : printV (printF F.Y l) = R at hI
  have key : ∀ (d k : Nat) (bs : List UInt8) (e : Env) (H : Heap), l.length - k = d → k ≤ l.length → bs.length + ((l.drop k).flatMap (lineA F.Y)).length ≤ 2 ^ 40 → 0 < H.length → BldAt 0 H 0 bs → printV ((printF F.Y (l.drop k)).map (bs ++ ·)) = R →
      I (setL e [(4, .ptr 0 0), (8, .lst (l.map StepA.av) .none), (9, .int .i64 ((l.map StepA.av).length : Nat)), (10, .int .i64 k)]) H := by
    intro d
    induction d with
    | zero =>
      intro k bs e H hd hk hbs hH hbl hR
      obtain rfl : k = l.length := by omega
      apply hI
      conv => whnf
      rw [show decide (((l.length : Nat) : Int) < (((l.map StepA.av).length : Nat) : Int)) = false from by simp]
      conv => whnf
      refine (String_spec F.h21 (by omega) (Nat.zero_le _) hbl).mono fun r H2 ⟨e1, hk2⟩ => ?_
      subst e1
      conv => whnf
      rw [List.drop_length] at hR
      rw [← hR]
      refine ret_weak ?_
      simp only [printF, printV, Option.map_some, List.append_nil]
      exact Weak.refl _
    | succ d ih =>
      intro k bs e H hd hk hbs hH hbl hR
      have hlt : k < l.length := by omega
      have hdrop : l.drop k = l[k] :: l.drop (k + 1) := List.drop_eq_getElem_cons hlt
      have hget : (l.map StepA.av)[((k : Nat) : Int).toNat]? = some l[k].av := by simp [hlt]
      have hxok := hok l[k] (by simp)
      generalize l[k] = x at hdrop hget hxok
      rw [hdrop] at hR hbs
      simp only [printF] at hR
      simp only [List.flatMap_cons, List.length_append] at hbs
      apply hI
      conv => whnf
      rw [show decide ((k : Int) < (((l.map StepA.av).length : Nat) : Int)) = true from by simp; omega]
      conv => whnf
      refine step_iaddr (by omega) hget rfl ?_
      conv => whnf
      obtain ⟨H1, s1, h1, ho1, hk1⟩ := store_next (off := 0) (k := 4) (x := x.av) (get_new H (.cells zeroS.cells 28)) rfl (by decide)
      have h1 : H1[H.length]? = some (.cells x.cells 28) := h1
      have hbl1 : BldAt 0 H1 0 bs := bld_push hbl fun i o hi => ho1 i o (get_push hi _) (fun e => by subst e; have := get_lt hi; omega)
      refine step_store ⟨rfl, rfl⟩ s1 ?_
      conv => whnf
      refine step_load (load_all h1 rfl) ?_
      conv => whnf
      refine (F.check x hxok).to ?_
      rcases check_01 F.Y.toScriptLib4 x with hck | hck
      · have hkind := check_kind _ _ hck
        obtain ⟨hj1, hj2⟩ := words_len F.Y x hxok
        rw [if_pos hck] at hR
        rw [hck]
        conv => whnf
        refine step_load (load_all h1 rfl) ?_
        conv => whnf
        refine (F.words x hxok hkind).to ?_
        conv => whnf
        refine (F.Y.join _ hj1 (by omega)).to ?_
        conv => whnf
        refine step_some (add_str (by simp only [List.length_singleton]; omega)) ?_
        conv => whnf
        have hlen : bs.length + (lineA F.Y x).length ≤ 2 ^ 46 := by omega
        refine (WriteString_spec F.h19 F.Y.bld (lineA F.Y x) (by simp [lineA]) hlen (Nat.zero_le _) hbl1).mono fun r H2 ⟨e1, hk2, hb2⟩ => ?_
        subst e1
        conv => whnf
        refine inv_of [(4, .ptr 0 0), (8, .lst (l.map StepA.av) .none), (9, .int .i64 ((l.map StepA.av).length : Nat)), (10, .int .i64 ((k + 1 : Nat) : Int))] ⟨rfl, rfl, rfl, add1 (by omega), trivial⟩
          (ih (k + 1) (bs ++ lineA F.Y x) _ H2 (by omega) (by omega) (by simp only [List.length_append]; omega) (by have := get_lt h1; have := hk2.1; omega) hb2 ?_)
        rw [← hR]
        cases printF F.Y (l.drop (k + 1)) <;> simp [printV]
      · rw [if_neg (by omega)] at hR
        rw [hck]
        conv => whnf
        rw [← hR]
        exact ret_weak (Weak.refl _)
  refine inv_of [(4, .ptr 0 0), (8, .lst (l.map StepA.av) .none), (9, .int .i64 ((l.map StepA.av).length : Nat)), (10, .int .i64 ((0 : Nat) : Int))] ⟨rfl, rfl, rfl, rfl, trivial⟩
    (key l.length 0 [] _ _ (by omega) (by omega) (by simpa using hb) (by simp) ⟨Nat.le_refl _, _, _, rfl, .inl rfl, .inl ⟨rfl, rfl⟩⟩ ?_)
  rw [← hR, List.drop_zero]
  cases printF F.Y l <;> simp [printV]

end Go.Ag
