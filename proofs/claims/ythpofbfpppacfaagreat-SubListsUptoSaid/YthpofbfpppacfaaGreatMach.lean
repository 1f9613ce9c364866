/- The library and the program's functions at this seat, as the law needs them. -/
import Derived.Test.YthpofbfpppacfaaGreatMachA
import Derived.Test.YthpofbfpppacfaaGreatSortF
import Derived.Test.YthpofbfpppacfaaGreatTextH
set_option maxRecDepth 100000
set_option linter.unusedVariables false
namespace Go.Proofs.YthpofbfpppacfaaGreat
open Go Go.Ag Go.Shelf
open Go.RowKit (Below)

theorem lexFns : LexFns (tab startOK) where
  h215 := h215 _
  h246 := h246 _
  h282 := h282 _
  h283 := h283 _
  h284 := h284 _
  h285 := h285 _
  h286 := h286 _
  h287 := h287 _
  h288 := h288 _
  h289 := h289 _
  h290 := h290 _
  h291 := h291 _
  h292 := h292 _
  h305 := h305 _
  lib := mach.lex

theorem compFns : CompFns (tab startOK) where
  h255 := h255 _
  h256 := h256 _

theorem typLib : TypLib (lnk startOK) where
  clone := mach.clone_spec
  sort := fun xs n id t H h1 h2 h3 h4 => sortF.sort_spec xs n id t H h1 h2 h3 h4
  sort0 := sortF.sort0
  compact := fun xs n id t H h1 h2 h3 h4 => compact_spec compFns xs n id t H h1 h2 h3 h4
  compact0 := compact0_spec compFns

theorem fns : Law9Fns (tab startOK) where
  h191 := h191 _
  h230 := h230 _
  h262 := h262 _
  h263 := h263 _
  h264 := h264 _
  h265 := h265 _
  h251 := h251 _
  h294 := h294 _
  h224 := h224 _
  h253 := h253 _
  h256 := h256 _
  h186 := h186 _
  h150 := h150 _
  h151 := h151 _
  h153 := h153 _
  h146 := h146 _
  h226 := h226 _
  h188 := h188 _
  h149 := h149 _
  h225 := h225 _
  h257 := h257 _
  h258 := h258 _
  h187 := h187 _
  h144 := h144 _
  h212 := h212 _
  h245 := h245 _
  h277 := h277 _
  h302 := h302 _
  h197 := h197 _
  h234 := h234 _
  h235 := h235 _
  h267 := h267 _
  h202 := h202 _
  h238 := h238 _
  h239 := h239 _
  h278 := h278 _
  h162 := h162 _
  h163 := h163 _
  h169 := h169 _
  h184 := h184 _
  h218 := h218 _
  h219 := h219 _
  h220 := h220 _
  h221 := h221 _
  h248 := h248 _
  h249 := h249 _
  h250 := h250 _
  h259 := h259 _
  h260 := h260 _
  h293 := h293 _
  h306 := h306 _
  h307 := h307 _
  h318 := h318 _
  h28 := h28 _
  h182 := h182 _
  h217 := h217 _
  h142 := h142 _
  h183 := h183 _
  h326 := h326 _
  h161 := h161 _
  h172 := h172 _
  h327 := h327 _
  h327v := h327v _
  jlib := mach.jlib
  tlib := typLib
  lib := par
  lex := lexFns
  cau := caught_lib

end Go.Proofs.YthpofbfpppacfaaGreat
