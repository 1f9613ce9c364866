/- The library and the program's functions at this seat, as the law needs them. -/
import Derived.Test.YtjampheggjpjdaaGreatDoorMachA
import Derived.Test.YtjampheggjpjdaaGreatDoorSortF
import Derived.Test.YtjampheggjpjdaaGreatDoorTextH
set_option maxRecDepth 100000
namespace Go.Proofs.YtjampheggjpjdaaGreatDoor
open Go Go.Ag Go.Shelf
open Go.RowKit (Below)
theorem lexFns : xO (tab startOK) where
  UW := UW _
  UF := UF _
  OJ := OJ _
  Ut := Ut _
  QO := QO _
  Us := Us _
  Ur := Ur _
  Ji := Ji _
  OI := OI _
  Uq := Uq _
  Uo := Uo _
  Un := Un _
  OH := OH _
  Uk := Uk _
  lib := mach.lex
theorem compFns : y9 (tab startOK) where
  QS := QS _
  Gy := Gy _
theorem typLib : SG (lnk startOK) where
  clone := mach.LJ
  sort := fun xs n id t H h1 h2 h3 h4 => sortF.NZ xs n id t H h1 h2 h3 h4
  BQ := sortF.BQ
  compact := fun xs n id t H h1 h2 h3 h4 => GK compFns xs n id t H h1 h2 h3 h4
  JM := DT compFns
noncomputable def numM : G5 (lnk startOK) where
  t := 5
  parse := fun s v w h1 h2 => Tryz.strconv_ParseInt_10_at64_ok s h1 v h2 w
theorem fns : LW (tab startOK) where
  UY := UY _
  UG := UG _
  Ux := Ux _
  Uw := Uw _
  Uv := Uv _
  Uu := Uu _
  Uc := mach.Uc
  OM := OM _
  OG := OG _
  UM := UM _
  Wy := Wy _
  Gy := Gy _
  U2 := U2 _
  U8 := U8 _
  U7 := U7 _
  NQ := typLib
  U6 := U6 _
  Vb := Vb _
  UL := UL _
  U0 := U0 _
  U9 := U9 _
  OO := OO _
  Jj := Jj _
  OL := OL _
  U1 := U1 _
  Vd := Vd _
  U3 := U3 _
  UR := UR _
  UQ := UQ _
  UO := UO _
  UN := UN _
  UE := UE _
  UD := UD _
  UC := UC _
  UA := UA _
  Uz := Uz _
  Um := Um _
  Uj := Uj _
  Ui := Ui _
  CU := CU _
  h28 := h28 _
  lib := par
  Uy := Uy _
  Ul := Ul _
  Uh := Uh _
  Ug := Ug _
  num := numM.lib
  lex := lexFns
  U5 := U5 _
  UU := UU _
  cau := caught_lib
  UZ := UZ _
  UK := UK _
  UJ := UJ _
  UH := UH _
  Vf := Vf _
  U4 := U4 _
  h41 := h41 _
  h60 := h60 _
  h59 := h59 _
  h61 := h61 _
  h62 := h62 _
  h83 := h83 _
  h96 := h96 _
  h85 := h85 _
  OT := OT _
  h42 := h42 _
  h63 := h63 _
  h84 := h84 _
  h40 := h40 _
  h39 := h39 _
  h58 := h58 _
  h79 := h79 _
  h80 := h80 _
  h81 := h81 _
  h82 := h82 _
  h24 := h24 _
  Ve := Ve _
  OQ := OQ _
  Jm := Jm _
  OP := OP _
  QT := QT _
  Va := Va _
  Ll := Ll _
  Jo := Jo _
  Vg := Vg _
  QU := QU _
end Go.Proofs.YtjampheggjpjdaaGreatDoor
