/- The library and the program's functions at this seat, as the law needs them. -/
import Derived.Test.YtjampheggjpjdaaGreatDoorMachA
import Derived.Test.YtjampheggjpjdaaGreatDoorSortF
import Derived.Test.YtjampheggjpjdaaGreatDoorTextH
set_option maxRecDepth 100000
namespace Go.Proofs.YtjampheggjpjdaaGreatDoor
open Go Go.Ag Go.Shelf
open Go.RowKit (Below)
theorem lexFns : LexFns (tab startOK) where
  h215 := h215 _
  h246 := h246 _
  h282 := h282 _
  h283 := h283 _
  h284 := h284 _
  h285 := h285 _
  h286 := h286 _
  h287 := h287 _
  h288 := h288 _
  h289 := h289 _
  h290 := h290 _
  h291 := h291 _
  h292 := h292 _
  h305 := h305 _
  lib := mach.lex
theorem compFns : CompFns (tab startOK) where
  h255 := h255 _
  h256 := h256 _
theorem typLib : TypLib (lnk startOK) where
  clone := mach.clone_spec
  sort := fun xs n id t H h1 h2 h3 h4 => sortF.sort_spec xs n id t H h1 h2 h3 h4
  sort0 := sortF.sort0
  compact := fun xs n id t H h1 h2 h3 h4 => compact_spec compFns xs n id t H h1 h2 h3 h4
  compact0 := compact0_spec compFns
noncomputable def numM : NumMach (lnk startOK) where
  t := 5
  parse := fun s v w h1 h2 => Tryz.strconv_ParseInt_10_at64_ok s h1 v h2 w
theorem fns : OrdFns (tab startOK) where
  h191 := h191 _
  h230 := h230 _
  h262 := h262 _
  h263 := h263 _
  h264 := h264 _
  h265 := h265 _
  jlib := mach.jlib
  h251 := h251 _
  h294 := h294 _
  h224 := h224 _
  h253 := h253 _
  h256 := h256 _
  h186 := h186 _
  h150 := h150 _
  h151 := h151 _
  tlib := typLib
  h153 := h153 _
  h146 := h146 _
  h226 := h226 _
  h188 := h188 _
  h149 := h149 _
  h225 := h225 _
  h257 := h257 _
  h258 := h258 _
  h187 := h187 _
  h144 := h144 _
  h184 := h184 _
  h218 := h218 _
  h219 := h219 _
  h220 := h220 _
  h221 := h221 _
  h248 := h248 _
  h249 := h249 _
  h250 := h250 _
  h259 := h259 _
  h260 := h260 _
  h293 := h293 _
  h306 := h306 _
  h307 := h307 _
  h318 := h318 _
  h28 := h28 _
  lib := par
  h261 := h261 _
  h296 := h296 _
  h316 := h316 _
  h323 := h323 _
  num := numM.lib
  lex := lexFns
  h182 := h182 _
  h217 := h217 _
  cau := caught_lib
  h189 := h189 _
  h227 := h227 _
  h228 := h228 _
  h229 := h229 _
  h142 := h142 _
  h183 := h183 _
  h41 := h41 _
  h60 := h60 _
  h59 := h59 _
  h61 := h61 _
  h62 := h62 _
  h83 := h83 _
  h96 := h96 _
  h85 := h85 _
  h104 := h104 _
  h42 := h42 _
  h63 := h63 _
  h84 := h84 _
  h40 := h40 _
  h39 := h39 _
  h58 := h58 _
  h79 := h79 _
  h80 := h80 _
  h81 := h81 _
  h82 := h82 _
  h24 := h24 _
  h143 := h143 _
  h185 := h185 _
  h222 := h222 _
  h223 := h223 _
  h147 := h147 _
  h148 := h148 _
  h190 := h190 _
  h145 := h145 _
  h141 := h141 _
  h128 := h128 _
end Go.Proofs.YtjampheggjpjdaaGreatDoor
