/- The library and the program's functions at this seat, as the law needs them. -/
import Derived.Test.YtmjgjmaljdgcpaaGreatDoorMachA
import Derived.Test.YtmjgjmaljdgcpaaGreatDoorSortF
import Derived.Test.YtmjgjmaljdgcpaaGreatDoorTextI
set_option maxRecDepth 100000
namespace Go.Proofs.YtmjgjmaljdgcpaaGreatDoor
open Go Go.Ag Go.Shelf
open Go.RowKit (Below)
theorem lexFns : yx (tab startOK) where
  XF := XF _
  Xq := Xq _
  QN := QN _
  Xe := Xe _
  TB := TB _
  Xd := Xd _
  Xc := Xc _
  KE := KE _
  QM := QM _
  Xb := Xb _
  Xa := Xa _
  W9 := W9 _
  QL := QL _
  WX := WX _
  lib := mach.lex
theorem compFns : zJ (tab startOK) where
  TD := TD _
  Iz := Iz _
theorem typLib : Vu (lnk startOK) where
  clone := mach.NA
  sort := fun xs n id t H h1 h2 h3 h4 => sortF.Qc xs n id t H h1 h2 h3 h4
  CU := sortF.CU
  compact := fun xs n id t H h1 h2 h3 h4 => IU compFns xs n id t H h1 h2 h3 h4
  La := EU compFns
noncomputable def numM : I8 (lnk startOK) where
  t := 5
  parse := fun s v w h1 h2 => Tryz.strconv_ParseInt_10_at64_ok s h1 v h2 w
theorem fns : YL (tab startOK) where
  XI := XI _
  Xu := Xu _
  Xj := Xj _
  Xi := Xi _
  Xh := Xh _
  Xg := Xg _
  WL := mach.WL
  QT := QT _
  QK := QK _
  Xz := Xz _
  Zu := Zu _
  Iz := Iz _
  XM := XM _
  XZ := XZ _
  XY := XY _
  P5 := typLib
  XW := XW _
  X5 := X5 _
  Xy := Xy _
  XK := XK _
  X3 := X3 _
  QV := QV _
  KF := KF _
  QS := QS _
  XL := XL _
  X6 := X6 _
  XO := XO _
  XD := XD _
  XC := XC _
  XB := XB _
  XA := XA _
  Xp := Xp _
  Xo := Xo _
  Xn := Xn _
  Xm := Xm _
  Xl := Xl _
  WZ := WZ _
  WW := WW _
  WV := WV _
  DZ := DZ _
  h28 := h28 _
  lib := par
  Xk := Xk _
  WY := WY _
  WU := WU _
  WT := WT _
  num := numM.lib
  lex := lexFns
  XQ := XQ _
  XE := XE _
  cau := caught_lib
  XJ := XJ _
  Xx := Xx _
  Xw := Xw _
  Xv := Xv _
  X7 := X7 _
  XP := XP _
  h41 := h41 _
  h60 := h60 _
  h59 := h59 _
  h61 := h61 _
  h62 := h62 _
  h83 := h83 _
  h96 := h96 _
  h85 := h85 _
  Q0 := Q0 _
  h42 := h42 _
  h63 := h63 _
  h84 := h84 _
  h40 := h40 _
  h39 := h39 _
  h58 := h58 _
  h79 := h79 _
  h80 := h80 _
  h81 := h81 _
  h82 := h82 _
  h24 := h24 _
  TH := TH _
  X4 := X4 _
  KL := KL _
  Xt := Xt _
  XH := XH _
  TG := TG _
  QW := QW _
  KG := KG _
  QO := QO _
  KD := KD _
  QX := QX _
  KJ := KJ _
  KI := KI _
  ER := ER _
  XG := XG _
  QU := QU _
  Xr := Xr _
  Xf := Xf _
  XU := XU _
  XT := XT _
  Zv := Zv _
  XV := XV _
  XR := XR _
  TI := TI _
  TF := TF _
  QZ := QZ _
  QY := QY _
end Go.Proofs.YtmjgjmaljdgcpaaGreatDoor
