/- The library and the program's functions at this seat, as the law needs them. -/
import Derived.Test.YtmjgjmaljdgcpaaGreatDoorMachA
import Derived.Test.YtmjgjmaljdgcpaaGreatDoorSortF
import Derived.Test.YtmjgjmaljdgcpaaGreatDoorTextI
set_option maxRecDepth 100000
namespace Go.Proofs.YtmjgjmaljdgcpaaGreatDoor
open Go Go.Ag Go.Shelf
open Go.RowKit (Below)
theorem lexFns : yC (tab startOK) where
  XK := XK _
  Xw := Xw _
  QU := QU _
  Xj := Xj _
  TG := TG _
  Xi := Xi _
  Xh := Xh _
  KJ := KJ _
  QT := QT _
  Xg := Xg _
  Xf := Xf _
  Xe := Xe _
  QS := QS _
  Xb := Xb _
  lib := mach.lex
theorem compFns : zN (tab startOK) where
  TH := TH _
  IG := IG _
theorem typLib : Vz (lnk startOK) where
  clone := mach.Ny
  sort := fun xs n id t H h1 h2 h3 h4 => sortF.Qf xs n id t H h1 h2 h3 h4
  CY := sortF.CY
  compact := fun xs n id t H h1 h2 h3 h4 => IW compFns xs n id t H h1 h2 h3 h4
  Ld := E8 compFns
noncomputable def numM : Jb (lnk startOK) where
  t := 5
  parse := fun s v w h1 h2 => Tryz.strconv_ParseInt_10_at64_ok s h1 v h2 w
theorem fns : YQ (tab startOK) where
  XO := XO _
  Xz := Xz _
  Xo := Xo _
  Xn := Xn _
  Xm := Xm _
  Xl := Xl _
  WR := mach.WR
  QX := QX _
  QO := QO _
  XE := XE _
  Zz := Zz _
  IG := IG _
  XT := XT _
  X7 := X7 _
  X6 := X6 _
  P7 := typLib
  X5 := X5 _
  Ya := Ya _
  XD := XD _
  XQ := XQ _
  X8 := X8 _
  QZ := QZ _
  KL := KL _
  QW := QW _
  XR := XR _
  Yb := Yb _
  XU := XU _
  XI := XI _
  XH := XH _
  XG := XG _
  XF := XF _
  Xv := Xv _
  Xu := Xu _
  Xt := Xt _
  Xr := Xr _
  Xq := Xq _
  Xd := Xd _
  Xa := Xa _
  W9 := W9 _
  Ec := Ec _
  h28 := h28 _
  lib := par
  Xp := Xp _
  Xc := Xc _
  WZ := WZ _
  WY := WY _
  num := numM.lib
  lex := lexFns
  XW := XW _
  XJ := XJ _
  cau := caught_lib
  XP := XP _
  XC := XC _
  XB := XB _
  XA := XA _
  Yc := Yc _
  XV := XV _
  h41 := h41 _
  h60 := h60 _
  h59 := h59 _
  h61 := h61 _
  h62 := h62 _
  h83 := h83 _
  h96 := h96 _
  h85 := h85 _
  Q7 := Q7 _
  h42 := h42 _
  h63 := h63 _
  h84 := h84 _
  h40 := h40 _
  h39 := h39 _
  h58 := h58 _
  h79 := h79 _
  h80 := h80 _
  h81 := h81 _
  h82 := h82 _
  h24 := h24 _
  TL := TL _
  X9 := X9 _
  KQ := KQ _
  Xy := Xy _
  XM := XM _
  TK := TK _
  Q0 := Q0 _
  KM := KM _
  QV := QV _
  KI := KI _
  Q5 := Q5 _
  KO := KO _
  KN := KN _
  EY := EY _
  XL := XL _
  QY := QY _
  Xx := Xx _
  Xk := Xk _
  X3 := X3 _
  XZ := XZ _
  ZA := ZA _
  X4 := X4 _
  XY := XY _
  TM := TM _
  Q6 := Q6 _
  TJ := TJ _
  TI := TI _
end Go.Proofs.YtmjgjmaljdgcpaaGreatDoor
