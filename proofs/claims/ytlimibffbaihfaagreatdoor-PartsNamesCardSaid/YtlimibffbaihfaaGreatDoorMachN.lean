/- The library and the program's functions at this seat, as the law needs them. -/
import Derived.Test.YtlimibffbaihfaaGreatDoorMachA
import Derived.Test.YtlimibffbaihfaaGreatDoorSortF
import Derived.Test.YtlimibffbaihfaaGreatDoorTextI
set_option maxRecDepth 100000
namespace Go.Proofs.YtlimibffbaihfaaGreatDoor
open Go Go.Ag Go.Shelf
open Go.RowKit (Below)
theorem lexFns : xV (tab startOK) where
  WC := WC _
  Wo := Wo _
  PS := PS _
  V6 := V6 _
  Sg := Sg _
  V5 := V5 _
  V4 := V4 _
  JW := JW _
  PO := PO _
  V3 := V3 _
  VZ := VZ _
  VY := VY _
  PN := PN _
  VU := VU _
  lib := mach.lex
theorem compFns : zo (tab startOK) where
  Si := Si _
  Hg := Hg _
theorem typLib : UA (lnk startOK) where
  clone := mach.MQ
  sort := fun xs n id t H h1 h2 h3 h4 => sortF.O4 xs n id t H h1 h2 h3 h4
  Cm := sortF.Cm
  compact := fun xs n id t H h1 h2 h3 h4 => HY compFns xs n id t H h1 h2 h3 h4
  Ku := Em compFns
noncomputable def numM : Ig (lnk startOK) where
  t := 5
  parse := fun s v w h1 h2 => Tryz.strconv_ParseInt_10_at64_ok s h1 v h2 w
theorem cloneLib : KY (lnk startOK) where
  row := fun ns H h1 h2 => ⟨10, mach.Qn (by kernel_rfl) ns H h1 h2⟩
theorem fns : UE (tab startOK) where
  WI := WI _
  Wq := Wq _
  Wd := Wd _
  V9 := V9 _
  V8 := V8 _
  V7 := V7 _
  VJ := mach.VJ
  PV := PV _
  PL := PL _
  Ww := Ww _
  Yx := Yx _
  Hg := Hg _
  WM := WM _
  WW := WW _
  WV := WV _
  Lb := typLib
  WU := WU _
  WZ := WZ _
  Wv := Wv _
  WK := WK _
  WX := WX _
  PW := PW _
  JX := JX _
  PU := PU _
  WL := WL _
  W9 := W9 _
  WO := WO _
  WA := WA _
  Wz := Wz _
  Wy := Wy _
  Wx := Wx _
  Wn := Wn _
  Wm := Wm _
  Wl := Wl _
  Wj := Wj _
  Wi := Wi _
  VX := VX _
  VT := VT _
  VR := VR _
  Di := Di _
  h28 := h28 _
  lib := par
  Wh := Wh _
  VW := VW _
  VQ := VQ _
  VP := VP _
  num := numM.lib
  lex := lexFns
  WR := WR _
  WB := WB _
  cau := caught_lib
  WJ := WJ _
  Wu := Wu _
  Wt := Wt _
  Ws := Ws _
  Xa := Xa _
  WQ := WQ _
  h41 := h41 _
  h60 := h60 _
  h59 := h59 _
  h61 := h61 _
  h62 := h62 _
  h83 := h83 _
  h96 := h96 _
  h85 := h85 _
  P6 := P6 _
  h42 := h42 _
  h63 := h63 _
  h84 := h84 _
  h40 := h40 _
  h39 := h39 _
  h58 := h58 _
  h79 := h79 _
  h80 := h80 _
  h81 := h81 _
  h82 := h82 _
  h24 := h24 _
  Sk := Sk _
  WY := WY _
  J2 := J2 _
  Wp := Wp _
  WH := WH _
  Sj := Sj _
  WT := WT _
  Yz := Yz _
  PZ := PZ _
  WG := WG _
  PY := PY _
  PX := PX _
  JZ := JZ _
  JY := JY _
  Ei := Ei _
  YA := YA _
  Yy := Yy _
  WS := WS _
  Hl := Hl _
  WE := WE _
  Dj := Dj _
  clib := cloneLib
  Mv := Mv _
  P5 := P5 _
end Go.Proofs.YtlimibffbaihfaaGreatDoor
