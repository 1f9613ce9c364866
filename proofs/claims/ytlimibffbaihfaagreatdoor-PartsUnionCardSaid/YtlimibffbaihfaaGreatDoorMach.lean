/- The library and the program's functions at this seat, as the law needs them. -/
import Derived.Test.YtlimibffbaihfaaGreatDoorMachA
import Derived.Test.YtlimibffbaihfaaGreatDoorSortF
import Derived.Test.YtlimibffbaihfaaGreatDoorTextI
set_option maxRecDepth 100000
namespace Go.Proofs.YtlimibffbaihfaaGreatDoor
open Go Go.Ag Go.Shelf
open Go.RowKit (Below)
theorem lexFns : yK (tab startOK) where
  Wx := Wx _
  Wi := Wi _
  P5 := P5 _
  VY := VY _
  Sg := Sg _
  VX := VX _
  VW := VW _
  J6 := J6 _
  PZ := PZ _
  VU := VU _
  VT := VT _
  VR := VR _
  PY := PY _
  VO := VO _
  lib := mach.lex
theorem compFns : zU (tab startOK) where
  Si := Si _
  H8 := H8 _
theorem typLib : UD (lnk startOK) where
  clone := mach.MU
  sort := fun xs n id t H h1 h2 h3 h4 => sortF.O8 xs n id t H h1 h2 h3 h4
  CU := sortF.CU
  compact := fun xs n id t H h1 h2 h3 h4 => Ih compFns xs n id t H h1 h2 h3 h4
  KC := EH compFns
noncomputable def numM : Iy (lnk startOK) where
  t := 5
  parse := fun s v w h1 h2 => Tryz.strconv_ParseInt_10_at64_ok s h1 v h2 w
theorem fns : OJ (tab startOK) where
  WA := WA _
  Wl := Wl _
  V5 := V5 _
  V4 := V4 _
  V3 := V3 _
  VZ := VZ _
  VE := mach.VE
  P7 := P7 _
  PX := PX _
  Wq := Wq _
  Yk := Yk _
  H8 := H8 _
  WG := WG _
  WQ := WQ _
  WO := WO _
  O0 := typLib
  WM := WM _
  WT := WT _
  Wp := Wp _
  WC := WC _
  WR := WR _
  P8 := P8 _
  J7 := J7 _
  P6 := P6 _
  WE := WE _
  WU := WU _
  WH := WH _
  Wv := Wv _
  Wu := Wu _
  Wt := Wt _
  Ws := Ws _
  Wh := Wh _
  Wd := Wd _
  V9 := V9 _
  V8 := V8 _
  V7 := V7 _
  VQ := VQ _
  VN := VN _
  VL := VL _
  DW := DW _
  h28 := h28 _
  lib := par
  V6 := V6 _
  VP := VP _
  VK := VK _
  VJ := VJ _
  num := numM.lib
  lex := lexFns
  WJ := WJ _
  Ww := Ww _
  cau := caught_lib
  WB := WB _
  Wo := Wo _
  Wn := Wn _
  Wm := Wm _
  WV := WV _
  WI := WI _
  h41 := h41 _
  h60 := h60 _
  h59 := h59 _
  h61 := h61 _
  h62 := h62 _
  h83 := h83 _
  h96 := h96 _
  h85 := h85 _
  Qc := Qc _
  h42 := h42 _
  h63 := h63 _
  h84 := h84 _
  h40 := h40 _
  h39 := h39 _
  h58 := h58 _
  h79 := h79 _
  h80 := h80 _
  h81 := h81 _
  h82 := h82 _
  h24 := h24 _
  Sl := Sl _
  WS := WS _
  Ka := Ka _
  Wj := Wj _
  Wz := Wz _
  Sk := Sk _
  WL := WL _
  Qa := Qa _
  ME := ME _
  Wy := Wy _
  P9 := P9 _
  MC := MC _
  J9 := J9 _
  J8 := J8 _
  ED := ED _
  WK := WK _
  Sj := Sj _
  Sm := Sm _
  Qb := Qb _
end Go.Proofs.YtlimibffbaihfaaGreatDoor
