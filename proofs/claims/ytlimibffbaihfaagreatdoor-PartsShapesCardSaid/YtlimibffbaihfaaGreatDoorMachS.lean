/- The library and the program's functions at this seat, as the law needs them. -/
import Derived.Test.YtlimibffbaihfaaGreatDoorMachA
import Derived.Test.YtlimibffbaihfaaGreatDoorSortF
import Derived.Test.YtlimibffbaihfaaGreatDoorTextI
set_option maxRecDepth 100000
namespace Go.Proofs.YtlimibffbaihfaaGreatDoor
open Go Go.Ag Go.Shelf
open Go.RowKit (Below)
theorem lexFns : yg (tab startOK) where
  WQ := WQ _
  Wz := Wz _
  Qa := Qa _
  Wn := Wn _
  Sr := Sr _
  Wm := Wm _
  Wl := Wl _
  JW := JW _
  P9 := P9 _
  Wj := Wj _
  Wi := Wi _
  Wh := Wh _
  P8 := P8 _
  V8 := V8 _
  lib := mach.lex
theorem compFns : zC (tab startOK) where
  Sv := Sv _
  Ht := Ht _
theorem typLib : UO (lnk startOK) where
  clone := mach.MU
  sort := fun xs n id t H h1 h2 h3 h4 => sortF.Pe xs n id t H h1 h2 h3 h4
  Cq := sortF.Cq
  compact := fun xs n id t H h1 h2 h3 h4 => Ia compFns xs n id t H h1 h2 h3 h4
  Ku := Er compFns
noncomputable def numM : Io (lnk startOK) where
  t := 5
  parse := fun s v w h1 h2 => Tryz.strconv_ParseInt_10_at64_ok s h1 v h2 w
theorem cloneLib : KZ (lnk startOK) where
  row := fun ns H h1 h2 => ⟨10, mach.Qx (by kernel_rfl) ns H h1 h2⟩
theorem fns : OO (tab startOK) where
  WU := WU _
  WB := WB _
  Ws := Ws _
  Wq := Wq _
  Wp := Wp _
  Wo := Wo _
  VW := mach.VW
  Qc := Qc _
  P7 := P7 _
  WI := WI _
  YF := YF _
  Ht := Ht _
  WY := WY _
  Xg := Xg _
  Xf := Xf _
  Le := typLib
  Xe := Xe _
  Xj := Xj _
  WH := WH _
  WW := WW _
  Xh := Xh _
  Qd := Qd _
  JX := JX _
  Qb := Qb _
  WX := WX _
  Xk := Xk _
  WZ := WZ _
  WM := WM _
  WL := WL _
  WK := WK _
  WJ := WJ _
  Wy := Wy _
  Wx := Wx _
  Ww := Ww _
  Wv := Wv _
  Wu := Wu _
  Wd := Wd _
  V7 := V7 _
  V6 := V6 _
  Dn := Dn _
  h28 := h28 _
  lib := par
  Wt := Wt _
  V9 := V9 _
  V5 := V5 _
  V4 := V4 _
  num := numM.lib
  lex := lexFns
  Xa := Xa _
  WO := WO _
  cau := caught_lib
  WV := WV _
  WG := WG _
  WE := WE _
  WC := WC _
  Xl := Xl _
  W9 := W9 _
  h41 := h41 _
  h60 := h60 _
  h59 := h59 _
  h61 := h61 _
  h62 := h62 _
  h83 := h83 _
  h96 := h96 _
  h85 := h85 _
  Qh := Qh _
  h42 := h42 _
  h63 := h63 _
  h84 := h84 _
  h40 := h40 _
  h39 := h39 _
  h58 := h58 _
  h79 := h79 _
  h80 := h80 _
  h81 := h81 _
  h82 := h82 _
  h24 := h24 _
  Sz := Sz _
  Xi := Xi _
  J2 := J2 _
  WA := WA _
  WT := WT _
  Sy := Sy _
  Xd := Xd _
  Qf := Qf _
  ME := ME _
  WS := WS _
  Qe := Qe _
  MC := MC _
  JZ := JZ _
  JY := JY _
  En := En _
  Xc := Xc _
  Sw := Sw _
  Xb := Xb _
  Hu := Hu _
  WR := WR _
  Dp := Dp _
  clib := cloneLib
  SA := SA _
  Qg := Qg _
end Go.Proofs.YtlimibffbaihfaaGreatDoor
