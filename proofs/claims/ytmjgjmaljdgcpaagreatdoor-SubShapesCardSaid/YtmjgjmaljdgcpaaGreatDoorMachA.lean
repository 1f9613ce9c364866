/- parse.caught at this seat, abstractly; and the library's contracts. -/
import Derived.Test.YtmjgjmaljdgcpaaGreatDoorCaught
import Derived.Test.YtmjgjmaljdgcpaaGreatDoorLink
import Derived.Test.YtmjgjmaljdgcpaaGreatDoorShelf
import Derived.Test.YtmjgjmaljdgcpaaGreatDoorTextI
set_option maxRecDepth 100000
namespace Go.Proofs.YtmjgjmaljdgcpaaGreatDoor
open Go Go.Ag Go.Shelf
open Go.RowKit (Below)
def startOK (w0 : World) (base : Nat) : Prop := 0 < base ∧ ∃ m, w0.cell? ⟨0, 0, none⟩ = some (.int .i64 m)
theorem caught_lib : wV (lnk startOK) where
  caught := fun g free H b Q h gg w vs hs hr => by
    obtain ⟨v, rfl, hv⟩ := JJ hr
    cases hv with
    | fn f _ fi ca _ _ hf h1 h2 =>
      cases h1
      cases f with
      | func f =>
        obtain ⟨rfl, fn, c1, c2, c3⟩ := hf
        have hent : ∀ w, (callFunc ((lnk startOK).num g) ca.toArray).run Tryz.prog w = .ok (.enter ((lnk startOK).num g) ca.toArray) w := fun w => by
          have c1' : Tryz.prog.funcs[(lnk startOK).num g]? = some fn := c1
          unfold callFunc
          have h4 : ¬ fn.body = none := by intro e0; rw [e0] at c2; cases c2
          have h5 : ¬ fn.name = "runtime.NumGoroutine" := by simpa using c3
          simp [c1', h4, h5]
        have hc := h gg w ca hs h2
        cases b with
        | false =>
          have := Tryz.caught_ok ((lnk startOK).num g) ca.toArray w (fun w' => ∃ H' g', Q H' ∧ gg.le g' ∧ St (lnk startOK) g' w' H') hent (hc.mono fun e w' ⟨r, H', g', ⟨e1, hQ⟩, hle, hst, hen⟩ => by
            subst e1
            obtain ⟨v, rfl, hv⟩ := hen
            cases hv with
            | tup vs _ h => cases h; exact ⟨rfl, H', g', hQ, hle, hst⟩)
          exact this.mono fun e w' ⟨e1, H', g', hQ, hle, hst⟩ => ⟨.ret (.bool true), H', g', ⟨rfl, hQ⟩, hle, hst, _, e1, .bool _⟩
        | true =>
          have := Tryz.caught_up ((lnk startOK).num g) ca.toArray w (fun w' => ∃ H' g', Q H' ∧ gg.le g' ∧ St (lnk startOK) g' w' H') hent (hc.mono fun e w' ⟨r, H', g', ⟨e1, hQ⟩, hle, hst, hen⟩ => by
            subst e1
            obtain ⟨v, rfl, hv⟩ := hen
            cases hv with
            | iface _ v _ h =>
              cases h with
              | agg vs _ h => cases h; exact ⟨rfl, H', g', hQ, hle, hst.alloc _⟩)
          exact this.mono fun e w' ⟨e1, H', g', hQ, hle, hst⟩ => ⟨.ret (.bool false), H', g', ⟨rfl, hQ⟩, hle, hst, _, e1, .bool _⟩
      | _ => exact absurd hf (by simp [LP])
theorem par : I7 (lnk startOK) := AB.par ⟨fun blk off cap ss w h1 h2 h3 => Tryz.slices_Sort_string blk off cap ss w h1 h2 h3, fun p cap w => Tryz.slices_Sort_string_none p cap w⟩
noncomputable def mach : qF (lnk startOK) where
  Q7 := 0
  Wj := 9
  indexByte := Tryz.strings_IndexByte
  cut := fun s sep m w h1 h2 => Tryz.strings_Cut s sep m w h1 h2
  Ko := fun a c sep w => (Tryz.strings_Join_none a c sep w).mono fun e w' ⟨e1, e2⟩ => ⟨e1, e2 ▸ Below.refl _ _⟩
  join := fun bk o c xs sep w h1 h2 h3 h4 h5 => Tryz.strings_Join bk o c xs sep w h1 h2 h3 h4 h5
  clone := fun b off n c zs w h1 h2 h3 => Tryz.slices_Clone_string b off n c zs w h1 h2 h3
  Ld := fun n c w => Tryz.slices_Clone_string_nil n c w
  Gt := fun a c w => Tryz.slices_Clone_string_zero a c w
  st := fun w0 base h => h
end Go.Proofs.YtmjgjmaljdgcpaaGreatDoor
