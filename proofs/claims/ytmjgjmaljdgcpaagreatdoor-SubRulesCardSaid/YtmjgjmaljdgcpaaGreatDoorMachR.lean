/- The library and the program's functions at this seat, as the law needs them. -/
import Derived.Test.YtmjgjmaljdgcpaaGreatDoorMachA
import Derived.Test.YtmjgjmaljdgcpaaGreatDoorSortF
import Derived.Test.YtmjgjmaljdgcpaaGreatDoorTextI
set_option maxRecDepth 100000
namespace Go.Proofs.YtmjgjmaljdgcpaaGreatDoor
open Go Go.Ag Go.Shelf
open Go.RowKit (Below)
theorem lexFns : yC (tab startOK) where
  Xo := Xo _
  Xa := Xa _
  Qx := Qx _
  WO := WO _
  Tc := Tc _
  WM := WM _
  WL := WL _
  Kw := Kw _
  Qw := Qw _
  WK := WK _
  WJ := WJ _
  WI := WI _
  Qv := Qv _
  WE := WE _
  lib := mach.lex
theorem compFns : zO (tab startOK) where
  Td := Td _
  Iq := Iq _
theorem typLib : Ve (lnk startOK) where
  clone := mach.Nj
  sort := fun xs n id t H h1 h2 h3 h4 => sortF.PO xs n id t H h1 h2 h3 h4
  CX := sortF.CX
  compact := fun xs n id t H h1 h2 h3 h4 => IE compFns xs n id t H h1 h2 h3 h4
  K3 := EY compFns
noncomputable def numM : IY (lnk startOK) where
  t := 5
  parse := fun s v w h1 h2 => Tryz.strconv_ParseInt_10_at64_ok s h1 v h2 w
theorem fns : Vi (tab startOK) where
  Xr := Xr _
  Xd := Xd _
  WU := WU _
  WT := WT _
  WS := WS _
  WR := WR _
  Wt := mach.Wt
  QA := QA _
  Qu := Qu _
  Xi := Xi _
  Zc := Zc _
  Iq := Iq _
  Xw := Xw _
  XH := XH _
  XG := XG _
  Pz := typLib
  XF := XF _
  XK := XK _
  Xh := Xh _
  Xu := Xu _
  XI := XI _
  QC := QC _
  Ky := Ky _
  Qz := Qz _
  Xv := Xv _
  XL := XL _
  Xx := Xx _
  Xm := Xm _
  Xl := Xl _
  Xk := Xk _
  Xj := Xj _
  W9 := W9 _
  WZ := WZ _
  WY := WY _
  WX := WX _
  WW := WW _
  WH := WH _
  WC := WC _
  WB := WB _
  D9 := D9 _
  h28 := h28 _
  lib := par
  WV := WV _
  WG := WG _
  WA := WA _
  Wz := Wz _
  num := numM.lib
  lex := lexFns
  Xz := Xz _
  Xn := Xn _
  cau := caught_lib
  Xt := Xt _
  Xg := Xg _
  Xf := Xf _
  Xe := Xe _
  XM := XM _
  Xy := Xy _
  h41 := h41 _
  h60 := h60 _
  h59 := h59 _
  h61 := h61 _
  h62 := h62 _
  h83 := h83 _
  h96 := h96 _
  h85 := h85 _
  QG := QG _
  h42 := h42 _
  h63 := h63 _
  h84 := h84 _
  h40 := h40 _
  h39 := h39 _
  h58 := h58 _
  h79 := h79 _
  h80 := h80 _
  h81 := h81 _
  h82 := h82 _
  h24 := h24 _
  Tf := Tf _
  XJ := XJ _
  KD := KD _
  Xc := Xc _
  Xq := Xq _
  Te := Te _
  QD := QD _
  Kz := Kz _
  Qy := Qy _
  Kv := Kv _
  QE := QE _
  KC := KC _
  KA := KA _
  EU := EU _
  Xp := Xp _
  QB := QB _
  Xb := Xb _
  WQ := WQ _
  XD := XD _
  XC := XC _
  XB := XB _
  XE := XE _
  XA := XA _
  Tg := Tg _
  QF := QF _
end Go.Proofs.YtmjgjmaljdgcpaaGreatDoor
