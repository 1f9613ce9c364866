/- This seat's functions bear our numbers: each function's code is the abstract code that we know. Printed by a program of ours (link.py). -/
import Derived.Test.YthpofbfpppacfaaGreatProg
import Derived.Test.YthpofbfpppacfaaGreatTextH
import Derived.KernelRfl
set_option maxRecDepth 100000
namespace Go.Proofs.YthpofbfpppacfaaGreat
open Go
def nums : List (Nat × Nat) := [(1, 0), (2, 1), (3, 2), (326, 3), (161, 4), (142, 5), (327, 6), (144, 7), (172, 8), (162, 9), (163, 10), (169, 11), (182, 12), (183, 13), (184, 14), (186, 15), (187, 16), (202, 17), (215, 18), (216, 19), (217, 20), (218, 21), (219, 22), (220, 23), (221, 24), (224, 25), (208, 26), (225, 27), (149, 28), (212, 29), (238, 30), (239, 31), (246, 32), (247, 33), (248, 34), (249, 35), (250, 36), (251, 37), (191, 38), (252, 39), (253, 40), (254, 41), (255, 42), (256, 43), (257, 44), (258, 45), (188, 46), (245, 47), (150, 48), (277, 49), (278, 50), (282, 51), (283, 52), (284, 53), (285, 54), (286, 55), (287, 56), (288, 57), (289, 58), (290, 59), (291, 60), (49, 61), (292, 62), (293, 63), (260, 64), (294, 65), (230, 66), (295, 67), (237, 68), (267, 69), (151, 70), (226, 71), (302, 72), (197, 73), (22, 74), (305, 75), (72, 76), (306, 77), (307, 78), (200, 79), (262, 80), (263, 81), (264, 82), (265, 83), (308, 84), (309, 85), (310, 86), (311, 87), (312, 88), (313, 89), (314, 90), (315, 91), (276, 92), (100, 93), (146, 94), (234, 95), (235, 96), (37, 97), (89, 98), (259, 99), (318, 100), (236, 101), (20, 102), (319, 103), (298, 104), (299, 105), (320, 106), (321, 107), (153, 108), (54, 109), (28, 110), (268, 111), (269, 112), (270, 113), (271, 114), (272, 115), (273, 116), (274, 117), (275, 118), (36, 119), (19, 120), (21, 121), (324, 122), (66, 123), (65, 124), (75, 125), (297, 126), (300, 127), (301, 128), (35, 129), (53, 130), (94, 131), (317, 132), (52, 133), (74, 134), (107, 135), (108, 136), (109, 137), (110, 138), (111, 139), (112, 140), (113, 141), (114, 142), (115, 143), (116, 144), (117, 145), (118, 146), (119, 147), (120, 148), (121, 149), (229, 150), (122, 151), (126, 152)]
def tys : List (Nat × Nat) := [(1, 0), (2, 1), (3, 2), (4, 3), (5, 4), (6, 5), (7, 6), (8, 7), (9, 8), (10, 9), (11, 10), (12, 11), (13, 12), (14, 13), (15, 14), (16, 15), (17, 16), (18, 17), (19, 18), (20, 19), (21, 20), (22, 21), (24, 22), (43, 23), (173, 24), (174, 25), (175, 26), (176, 27), (177, 28), (356, 29), (179, 30), (180, 31), (181, 32), (182, 33), (211, 34), (183, 35), (202, 36), (40, 37), (224, 38), (225, 39), (226, 40), (227, 41), (231, 42), (232, 43), (233, 44), (234, 45), (203, 46), (235, 47), (260, 48), (261, 49), (262, 50), (263, 51), (199, 52), (276, 53), (237, 54), (277, 55), (278, 56), (279, 57), (280, 58), (281, 59), (85, 60), (282, 61), (283, 62), (78, 63), (39, 64), (285, 65), (259, 66), (247, 67), (248, 68), (286, 69), (190, 70), (273, 71), (272, 72), (297, 73), (298, 74), (299, 75), (300, 76), (301, 77), (302, 78), (303, 79), (228, 80), (229, 81), (304, 82), (184, 83), (305, 84), (306, 85), (307, 86), (73, 87), (308, 88), (309, 89), (310, 90), (311, 91), (296, 92), (325, 93), (326, 94), (327, 95), (331, 96), (95, 97), (332, 98), (97, 99), (126, 100), (333, 101), (106, 102), (288, 103), (334, 104), (151, 105), (98, 106), (191, 107), (341, 108), (254, 109), (255, 110), (57, 111), (58, 112), (344, 113), (258, 114), (315, 115), (45, 116), (316, 117), (345, 118), (319, 119), (320, 120), (346, 121), (347, 122), (348, 123), (349, 124), (157, 125), (141, 126), (137, 127), (130, 128), (129, 129), (291, 130), (55, 131), (335, 132), (336, 133), (337, 134), (353, 135), (339, 136), (354, 137), (74, 138), (318, 139), (321, 140), (322, 141), (323, 142), (324, 143), (47, 144), (48, 145), (49, 146), (50, 147), (51, 148), (52, 149), (53, 150), (54, 151), (56, 152), (350, 153), (351, 154), (355, 155), (112, 156), (338, 157), (340, 158), (79, 159), (142, 160), (143, 161), (352, 162), (100, 163), (101, 164), (121, 165), (160, 166), (161, 167), (162, 168), (163, 169), (164, 170), (165, 171), (166, 172), (167, 173), (168, 174), (169, 175), (170, 176), (171, 177), (172, 178)]
noncomputable def lnk (start : World → Nat → Prop) : Go.Ag.Lnk := { P := Tryz.prog, num := fun g => (nums.find? (fun p => p.1 == g)).elim 0 (·.2), ty := fun t => (tys.find? (fun p => p.1 == t)).elim 0 (·.2), start := start }
noncomputable def tab (start : World → Nat → Prop) : Go.Ag.Tab := { L := lnk start, fg := fun f => (nums.find? (fun p => p.2 == f)).elim 0 (·.1), tg := fun t => (tys.find? (fun p => p.2 == t)).elim 0 (·.1) }
theorem h142 (s : World → Nat → Prop) : (tab s).has 142 Go.Ag.c_142 := ⟨Tryz.f5, by kernel_rfl, true, false, false, false, by kernel_rfl⟩
theorem h144 (s : World → Nat → Prop) : (tab s).has 144 Go.Ag.c_144 := ⟨Tryz.f7, by kernel_rfl, true, false, false, false, by kernel_rfl⟩
theorem h146 (s : World → Nat → Prop) : (tab s).has 146 Go.Ag.c_146 := ⟨Tryz.f94, by kernel_rfl, true, false, false, false, by kernel_rfl⟩
theorem h149 (s : World → Nat → Prop) : (tab s).has 149 Go.Ag.c_149 := ⟨Tryz.f28, by kernel_rfl, true, false, false, false, by kernel_rfl⟩
theorem h150 (s : World → Nat → Prop) : (tab s).has 150 Go.Ag.c_150 := ⟨Tryz.f48, by kernel_rfl, true, false, false, false, by kernel_rfl⟩
theorem h151 (s : World → Nat → Prop) : (tab s).has 151 Go.Ag.c_151 := ⟨Tryz.f70, by kernel_rfl, true, false, false, false, by kernel_rfl⟩
theorem h153 (s : World → Nat → Prop) : (tab s).has 153 Go.Ag.c_153 := ⟨Tryz.f108, by kernel_rfl, true, false, false, false, by kernel_rfl⟩
theorem h161 (s : World → Nat → Prop) : (tab s).has 161 Go.Ag.c_161 := ⟨Tryz.f4, by kernel_rfl, true, false, false, false, by kernel_rfl⟩
theorem h162 (s : World → Nat → Prop) : (tab s).has 162 Go.Ag.c_162 := ⟨Tryz.f9, by kernel_rfl, true, false, false, false, by kernel_rfl⟩
theorem h163 (s : World → Nat → Prop) : (tab s).has 163 Go.Ag.c_163 := ⟨Tryz.f10, by kernel_rfl, true, false, false, false, by kernel_rfl⟩
theorem h169 (s : World → Nat → Prop) : (tab s).has 169 Go.Ag.c_169 := ⟨Tryz.f11, by kernel_rfl, true, false, false, false, by kernel_rfl⟩
theorem h172 (s : World → Nat → Prop) : (tab s).has 172 Go.Ag.c_172 := ⟨Tryz.f8, by kernel_rfl, true, false, false, false, by kernel_rfl⟩
theorem h182 (s : World → Nat → Prop) : (tab s).has 182 Go.Ag.c_182 := ⟨Tryz.f12, by kernel_rfl, true, false, false, false, by kernel_rfl⟩
theorem h183 (s : World → Nat → Prop) : (tab s).has 183 Go.Ag.c_183 := ⟨Tryz.f13, by kernel_rfl, true, false, false, false, by kernel_rfl⟩
theorem h184 (s : World → Nat → Prop) : (tab s).has 184 Go.Ag.c_184 := ⟨Tryz.f14, by kernel_rfl, true, false, false, false, by kernel_rfl⟩
theorem h186 (s : World → Nat → Prop) : (tab s).has 186 Go.Ag.c_186 := ⟨Tryz.f15, by kernel_rfl, true, false, false, false, by kernel_rfl⟩
theorem h187 (s : World → Nat → Prop) : (tab s).has 187 Go.Ag.c_187 := ⟨Tryz.f16, by kernel_rfl, true, false, false, false, by kernel_rfl⟩
theorem h188 (s : World → Nat → Prop) : (tab s).has 188 Go.Ag.c_188 := ⟨Tryz.f46, by kernel_rfl, true, false, false, false, by kernel_rfl⟩
theorem h191 (s : World → Nat → Prop) : (tab s).has 191 Go.Ag.c_191 := ⟨Tryz.f38, by kernel_rfl, true, false, false, false, by kernel_rfl⟩
theorem h197 (s : World → Nat → Prop) : (tab s).has 197 Go.Ag.c_197 := ⟨Tryz.f73, by kernel_rfl, true, false, false, false, by kernel_rfl⟩
theorem h202 (s : World → Nat → Prop) : (tab s).has 202 Go.Ag.c_202 := ⟨Tryz.f17, by kernel_rfl, true, false, false, false, by kernel_rfl⟩
theorem h212 (s : World → Nat → Prop) : (tab s).has 212 Go.Ag.c_212 := ⟨Tryz.f29, by kernel_rfl, true, false, false, false, by kernel_rfl⟩
theorem h215 (s : World → Nat → Prop) : (tab s).has 215 Go.Ag.c_215 := ⟨Tryz.f18, by kernel_rfl, true, false, false, false, by kernel_rfl⟩
theorem h217 (s : World → Nat → Prop) : (tab s).has 217 Go.Ag.c_217 := ⟨Tryz.f20, by kernel_rfl, true, false, false, false, by kernel_rfl⟩
theorem h218 (s : World → Nat → Prop) : (tab s).has 218 Go.Ag.c_218 := ⟨Tryz.f21, by kernel_rfl, true, false, false, false, by kernel_rfl⟩
theorem h219 (s : World → Nat → Prop) : (tab s).has 219 Go.Ag.c_219 := ⟨Tryz.f22, by kernel_rfl, true, false, false, false, by kernel_rfl⟩
theorem h220 (s : World → Nat → Prop) : (tab s).has 220 Go.Ag.c_220 := ⟨Tryz.f23, by kernel_rfl, true, false, false, false, by kernel_rfl⟩
theorem h221 (s : World → Nat → Prop) : (tab s).has 221 Go.Ag.c_221 := ⟨Tryz.f24, by kernel_rfl, true, false, false, false, by kernel_rfl⟩
theorem h224 (s : World → Nat → Prop) : (tab s).has 224 Go.Ag.c_224 := ⟨Tryz.f25, by kernel_rfl, true, false, false, false, by kernel_rfl⟩
theorem h225 (s : World → Nat → Prop) : (tab s).has 225 Go.Ag.c_225 := ⟨Tryz.f27, by kernel_rfl, true, false, false, false, by kernel_rfl⟩
theorem h226 (s : World → Nat → Prop) : (tab s).has 226 Go.Ag.c_226 := ⟨Tryz.f71, by kernel_rfl, true, false, false, false, by kernel_rfl⟩
theorem h230 (s : World → Nat → Prop) : (tab s).has 230 Go.Ag.c_230 := ⟨Tryz.f66, by kernel_rfl, true, false, false, false, by kernel_rfl⟩
theorem h234 (s : World → Nat → Prop) : (tab s).has 234 Go.Ag.c_234 := ⟨Tryz.f95, by kernel_rfl, true, false, false, false, by kernel_rfl⟩
theorem h235 (s : World → Nat → Prop) : (tab s).has 235 Go.Ag.c_235 := ⟨Tryz.f96, by kernel_rfl, true, false, false, false, by kernel_rfl⟩
theorem h238 (s : World → Nat → Prop) : (tab s).has 238 Go.Ag.c_238 := ⟨Tryz.f30, by kernel_rfl, true, false, false, false, by kernel_rfl⟩
theorem h239 (s : World → Nat → Prop) : (tab s).has 239 Go.Ag.c_239 := ⟨Tryz.f31, by kernel_rfl, true, false, true, false, by kernel_rfl⟩
theorem h245 (s : World → Nat → Prop) : (tab s).has 245 Go.Ag.c_245 := ⟨Tryz.f47, by kernel_rfl, true, false, false, false, by kernel_rfl⟩
theorem h246 (s : World → Nat → Prop) : (tab s).has 246 Go.Ag.c_246 := ⟨Tryz.f32, by kernel_rfl, true, false, false, false, by kernel_rfl⟩
theorem h248 (s : World → Nat → Prop) : (tab s).has 248 Go.Ag.c_248 := ⟨Tryz.f34, by kernel_rfl, true, false, false, false, by kernel_rfl⟩
theorem h249 (s : World → Nat → Prop) : (tab s).has 249 Go.Ag.c_249 := ⟨Tryz.f35, by kernel_rfl, true, false, false, false, by kernel_rfl⟩
theorem h250 (s : World → Nat → Prop) : (tab s).has 250 Go.Ag.c_250 := ⟨Tryz.f36, by kernel_rfl, true, false, false, false, by kernel_rfl⟩
theorem h251 (s : World → Nat → Prop) : (tab s).has 251 Go.Ag.c_251 := ⟨Tryz.f37, by kernel_rfl, true, false, false, false, by kernel_rfl⟩
theorem h253 (s : World → Nat → Prop) : (tab s).has 253 Go.Ag.c_253 := ⟨Tryz.f40, by kernel_rfl, true, false, false, false, by kernel_rfl⟩
theorem h255 (s : World → Nat → Prop) : (tab s).has 255 Go.Ag.c_255 := ⟨Tryz.f42, by kernel_rfl, true, false, true, false, by kernel_rfl⟩
theorem h256 (s : World → Nat → Prop) : (tab s).has 256 Go.Ag.c_256 := ⟨Tryz.f43, by kernel_rfl, true, false, false, false, by kernel_rfl⟩
theorem h257 (s : World → Nat → Prop) : (tab s).has 257 Go.Ag.c_257 := ⟨Tryz.f44, by kernel_rfl, true, false, false, false, by kernel_rfl⟩
theorem h258 (s : World → Nat → Prop) : (tab s).has 258 Go.Ag.c_258 := ⟨Tryz.f45, by kernel_rfl, true, false, false, false, by kernel_rfl⟩
theorem h259 (s : World → Nat → Prop) : (tab s).has 259 Go.Ag.c_259 := ⟨Tryz.f99, by kernel_rfl, true, false, false, false, by kernel_rfl⟩
theorem h260 (s : World → Nat → Prop) : (tab s).has 260 Go.Ag.c_260 := ⟨Tryz.f64, by kernel_rfl, true, false, false, false, by kernel_rfl⟩
theorem h262 (s : World → Nat → Prop) : (tab s).has 262 Go.Ag.c_262 := ⟨Tryz.f80, by kernel_rfl, true, false, false, false, by kernel_rfl⟩
theorem h263 (s : World → Nat → Prop) : (tab s).has 263 Go.Ag.c_263 := ⟨Tryz.f81, by kernel_rfl, true, false, false, false, by kernel_rfl⟩
theorem h264 (s : World → Nat → Prop) : (tab s).has 264 Go.Ag.c_264 := ⟨Tryz.f82, by kernel_rfl, true, false, false, false, by kernel_rfl⟩
theorem h265 (s : World → Nat → Prop) : (tab s).has 265 Go.Ag.c_265 := ⟨Tryz.f83, by kernel_rfl, true, false, false, false, by kernel_rfl⟩
theorem h267 (s : World → Nat → Prop) : (tab s).has 267 Go.Ag.c_267 := ⟨Tryz.f69, by kernel_rfl, true, false, false, false, by kernel_rfl⟩
theorem h277 (s : World → Nat → Prop) : (tab s).has 277 Go.Ag.c_277 := ⟨Tryz.f49, by kernel_rfl, true, false, false, false, by kernel_rfl⟩
theorem h278 (s : World → Nat → Prop) : (tab s).has 278 Go.Ag.c_278 := ⟨Tryz.f50, by kernel_rfl, true, false, false, false, by kernel_rfl⟩
theorem h28 (s : World → Nat → Prop) : (tab s).has 28 Go.Ag.c_28 := ⟨Tryz.f110, by kernel_rfl, true, false, false, false, by kernel_rfl⟩
theorem h282 (s : World → Nat → Prop) : (tab s).has 282 Go.Ag.c_282 := ⟨Tryz.f51, by kernel_rfl, true, false, false, false, by kernel_rfl⟩
theorem h283 (s : World → Nat → Prop) : (tab s).has 283 Go.Ag.c_283 := ⟨Tryz.f52, by kernel_rfl, true, false, false, false, by kernel_rfl⟩
theorem h284 (s : World → Nat → Prop) : (tab s).has 284 Go.Ag.c_284 := ⟨Tryz.f53, by kernel_rfl, true, false, false, false, by kernel_rfl⟩
theorem h285 (s : World → Nat → Prop) : (tab s).has 285 Go.Ag.c_285 := ⟨Tryz.f54, by kernel_rfl, true, false, false, false, by kernel_rfl⟩
theorem h286 (s : World → Nat → Prop) : (tab s).has 286 Go.Ag.c_286 := ⟨Tryz.f55, by kernel_rfl, true, false, false, false, by kernel_rfl⟩
theorem h287 (s : World → Nat → Prop) : (tab s).has 287 Go.Ag.c_287 := ⟨Tryz.f56, by kernel_rfl, true, false, false, false, by kernel_rfl⟩
theorem h288 (s : World → Nat → Prop) : (tab s).has 288 Go.Ag.c_288 := ⟨Tryz.f57, by kernel_rfl, true, false, false, false, by kernel_rfl⟩
theorem h289 (s : World → Nat → Prop) : (tab s).has 289 Go.Ag.c_289 := ⟨Tryz.f58, by kernel_rfl, true, false, false, false, by kernel_rfl⟩
theorem h290 (s : World → Nat → Prop) : (tab s).has 290 Go.Ag.c_290 := ⟨Tryz.f59, by kernel_rfl, true, false, false, false, by kernel_rfl⟩
theorem h291 (s : World → Nat → Prop) : (tab s).has 291 Go.Ag.c_291 := ⟨Tryz.f60, by kernel_rfl, true, false, false, false, by kernel_rfl⟩
theorem h292 (s : World → Nat → Prop) : (tab s).has 292 Go.Ag.c_292 := ⟨Tryz.f62, by kernel_rfl, true, false, false, false, by kernel_rfl⟩
theorem h293 (s : World → Nat → Prop) : (tab s).has 293 Go.Ag.c_293 := ⟨Tryz.f63, by kernel_rfl, true, false, false, false, by kernel_rfl⟩
theorem h294 (s : World → Nat → Prop) : (tab s).has 294 Go.Ag.c_294 := ⟨Tryz.f65, by kernel_rfl, true, false, false, false, by kernel_rfl⟩
theorem h302 (s : World → Nat → Prop) : (tab s).has 302 Go.Ag.c_302 := ⟨Tryz.f72, by kernel_rfl, true, false, true, false, by kernel_rfl⟩
theorem h305 (s : World → Nat → Prop) : (tab s).has 305 Go.Ag.c_305 := ⟨Tryz.f75, by kernel_rfl, true, false, false, false, by kernel_rfl⟩
theorem h306 (s : World → Nat → Prop) : (tab s).has 306 Go.Ag.c_306 := ⟨Tryz.f77, by kernel_rfl, true, false, false, false, by kernel_rfl⟩
theorem h307 (s : World → Nat → Prop) : (tab s).has 307 Go.Ag.c_307 := ⟨Tryz.f78, by kernel_rfl, true, false, false, false, by kernel_rfl⟩
theorem h318 (s : World → Nat → Prop) : (tab s).has 318 Go.Ag.c_318 := ⟨Tryz.f100, by kernel_rfl, true, false, false, false, by kernel_rfl⟩
theorem h326 (s : World → Nat → Prop) : (tab s).has 326 Go.Ag.c_326 := ⟨Tryz.f3, by kernel_rfl, true, false, true, false, by kernel_rfl⟩
theorem h327 (s : World → Nat → Prop) : (tab s).has 327 Go.Ag.c_327 := ⟨Tryz.f6, by kernel_rfl, true, false, false, false, by kernel_rfl⟩
theorem h327v (s : World → Nat → Prop) : (tab s).has 327 Go.Ag.c_327v := ⟨Tryz.f6, by kernel_rfl, true, false, false, true, by kernel_rfl⟩
end Go.Proofs.YthpofbfpppacfaaGreat
