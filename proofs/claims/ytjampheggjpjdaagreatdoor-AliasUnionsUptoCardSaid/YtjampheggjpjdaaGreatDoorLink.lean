/- This seat's functions bear our numbers: each function's code is the abstract code that we know. Printed by a program of ours (link.py). -/
import Derived.Test.YtjampheggjpjdaaGreatDoorProg
import Derived.Test.YtjampheggjpjdaaGreatDoorTextH
import Derived.KernelRfl
set_option maxRecDepth 100000
namespace Go.Proofs.YtjampheggjpjdaaGreatDoor
open Go
def nums : List (Nat × Nat) := [(1, 0), (2, 1), (3, 2), (128, 3), (129, 4), (141, 5), (142, 6), (143, 7), (144, 8), (145, 9), (146, 10), (147, 11), (148, 12), (149, 13), (150, 14), (151, 15), (182, 16), (183, 17), (184, 18), (185, 19), (186, 20), (187, 21), (188, 22), (153, 23), (189, 24), (24, 25), (190, 26), (191, 27), (215, 28), (216, 29), (217, 30), (218, 31), (219, 32), (220, 33), (221, 34), (222, 35), (223, 36), (224, 37), (208, 38), (225, 39), (226, 40), (227, 41), (228, 42), (229, 43), (39, 44), (40, 45), (41, 46), (230, 47), (246, 48), (247, 49), (248, 50), (249, 51), (250, 52), (251, 53), (252, 54), (253, 55), (254, 56), (255, 57), (256, 58), (257, 59), (258, 60), (259, 61), (260, 62), (261, 63), (58, 64), (59, 65), (60, 66), (61, 67), (62, 68), (42, 69), (262, 70), (263, 71), (264, 72), (265, 73), (282, 74), (283, 75), (284, 76), (285, 77), (286, 78), (287, 79), (288, 80), (289, 81), (290, 82), (291, 83), (49, 84), (292, 85), (293, 86), (294, 87), (295, 88), (237, 89), (267, 90), (296, 91), (79, 92), (80, 93), (81, 94), (82, 95), (83, 96), (63, 97), (20, 98), (22, 99), (305, 100), (72, 101), (306, 102), (307, 103), (200, 104), (308, 105), (309, 106), (310, 107), (311, 108), (312, 109), (313, 110), (314, 111), (315, 112), (276, 113), (100, 114), (316, 115), (96, 116), (84, 117), (85, 118), (36, 119), (19, 120), (21, 121), (37, 122), (89, 123), (318, 124), (236, 125), (319, 126), (298, 127), (299, 128), (320, 129), (321, 130), (322, 131), (323, 132), (104, 133), (35, 134), (53, 135), (54, 136), (28, 137), (268, 138), (269, 139), (270, 140), (271, 141), (272, 142), (273, 143), (234, 144), (274, 145), (275, 146), (324, 147), (67, 148), (48, 149), (52, 150), (74, 151), (66, 152), (65, 153), (75, 154), (297, 155), (300, 156), (301, 157), (86, 158), (68, 159), (69, 160), (70, 161), (71, 162), (94, 163), (317, 164), (97, 165), (98, 166), (87, 167), (88, 168), (32, 169), (50, 170), (73, 171), (90, 172), (91, 173), (92, 174), (93, 175), (99, 176), (101, 177), (102, 178), (103, 179), (105, 180), (106, 181), (107, 182), (108, 183), (109, 184), (110, 185), (111, 186), (112, 187), (113, 188), (114, 189), (115, 190), (116, 191), (117, 192), (118, 193), (119, 194), (120, 195), (121, 196), (122, 197), (123, 198), (124, 199), (125, 200), (126, 201), (127, 209)]
def tys : List (Nat × Nat) := [(1, 0), (2, 1), (3, 2), (4, 3), (5, 4), (6, 5), (7, 6), (8, 7), (9, 8), (10, 9), (11, 10), (12, 11), (13, 12), (14, 13), (15, 14), (16, 15), (17, 16), (18, 17), (19, 18), (20, 19), (21, 20), (22, 21), (24, 22), (43, 23), (173, 24), (174, 25), (175, 26), (176, 27), (177, 28), (178, 29), (179, 30), (180, 31), (181, 32), (182, 33), (183, 34), (184, 35), (39, 36), (185, 37), (186, 38), (187, 39), (188, 40), (189, 41), (190, 42), (191, 43), (192, 44), (224, 45), (225, 46), (226, 47), (227, 48), (228, 49), (229, 50), (230, 51), (231, 52), (232, 53), (233, 54), (234, 55), (203, 56), (235, 57), (236, 58), (237, 59), (238, 60), (239, 61), (60, 62), (61, 63), (62, 64), (63, 65), (240, 66), (241, 67), (242, 68), (64, 69), (65, 70), (66, 71), (67, 72), (108, 73), (109, 74), (243, 75), (244, 76), (245, 77), (276, 78), (277, 79), (278, 80), (279, 81), (280, 82), (281, 83), (85, 84), (282, 85), (283, 86), (78, 87), (272, 88), (284, 89), (285, 90), (259, 91), (247, 92), (248, 93), (286, 94), (287, 95), (81, 96), (82, 97), (83, 98), (84, 99), (86, 100), (87, 101), (288, 102), (297, 103), (298, 104), (299, 105), (300, 106), (301, 107), (302, 108), (303, 109), (304, 110), (305, 111), (306, 112), (307, 113), (73, 114), (308, 115), (309, 116), (310, 117), (311, 118), (106, 119), (312, 120), (313, 121), (314, 122), (103, 123), (104, 124), (105, 125), (107, 126), (110, 127), (69, 128), (70, 129), (88, 130), (315, 131), (45, 132), (316, 133), (331, 134), (95, 135), (332, 136), (40, 137), (97, 138), (126, 139), (333, 140), (334, 141), (151, 142), (98, 143), (124, 144), (125, 145), (127, 146), (55, 147), (57, 148), (58, 149), (344, 150), (258, 151), (345, 152), (319, 153), (320, 154), (346, 155), (347, 156), (348, 157), (254, 158), (349, 159), (157, 160), (141, 161), (137, 162), (130, 163), (128, 164), (129, 165), (47, 166), (48, 167), (49, 168), (50, 169), (51, 170), (52, 171), (53, 172), (54, 173), (56, 174), (291, 175), (335, 176), (336, 177), (337, 178), (353, 179), (339, 180), (354, 181), (115, 182), (116, 183), (156, 184), (79, 185), (74, 186), (318, 187), (321, 188), (322, 189), (323, 190), (324, 191), (350, 192), (351, 193), (355, 194), (96, 195), (100, 196), (101, 197), (121, 198), (112, 199), (338, 200), (340, 201), (114, 202), (131, 203), (132, 204), (117, 205), (118, 206), (119, 207), (142, 208), (143, 209), (352, 210), (144, 211), (46, 212), (133, 213), (134, 214), (135, 215), (145, 216), (146, 217), (147, 218), (120, 219), (136, 220), (138, 221), (139, 222), (140, 223), (148, 224), (149, 225), (150, 226), (90, 227), (158, 228), (159, 229), (160, 230), (161, 231), (162, 232), (163, 233), (164, 234), (165, 235), (166, 236), (167, 237), (168, 238), (169, 239), (170, 240), (171, 241), (172, 242)]
noncomputable def lnk (start : World → Nat → Prop) : Go.Ag.Lnk := { P := Tryz.prog, num := fun g => (nums.find? (fun p => p.1 == g)).elim 0 (·.2), ty := fun t => (tys.find? (fun p => p.1 == t)).elim 0 (·.2), start := start }
noncomputable def tab (start : World → Nat → Prop) : Go.Ag.Tab := { L := lnk start, fg := fun f => (nums.find? (fun p => p.2 == f)).elim 0 (·.1), tg := fun t => (tys.find? (fun p => p.2 == t)).elim 0 (·.1) }
theorem h24 (s : World → Nat → Prop) : (tab s).has 24 Go.Ag.WO := ⟨Tryz.f25, by kernel_rfl, true, false, false, false, by kernel_rfl⟩
theorem h28 (s : World → Nat → Prop) : (tab s).has 28 Go.Ag.LK := ⟨Tryz.f137, by kernel_rfl, true, false, false, false, by kernel_rfl⟩
theorem h39 (s : World → Nat → Prop) : (tab s).has 39 Go.Ag.Vv := ⟨Tryz.f44, by kernel_rfl, true, false, false, false, by kernel_rfl⟩
theorem h40 (s : World → Nat → Prop) : (tab s).has 40 Go.Ag.WM := ⟨Tryz.f45, by kernel_rfl, true, false, false, false, by kernel_rfl⟩
theorem h41 (s : World → Nat → Prop) : (tab s).has 41 Go.Ag.Vu := ⟨Tryz.f46, by kernel_rfl, true, false, false, false, by kernel_rfl⟩
theorem h42 (s : World → Nat → Prop) : (tab s).has 42 Go.Ag.WL := ⟨Tryz.f69, by kernel_rfl, true, false, false, false, by kernel_rfl⟩
theorem h58 (s : World → Nat → Prop) : (tab s).has 58 Go.Ag.Rm := ⟨Tryz.f64, by kernel_rfl, true, false, false, false, by kernel_rfl⟩
theorem h59 (s : World → Nat → Prop) : (tab s).has 59 Go.Ag.WK := ⟨Tryz.f65, by kernel_rfl, true, false, false, false, by kernel_rfl⟩
theorem h60 (s : World → Nat → Prop) : (tab s).has 60 Go.Ag.Vt := ⟨Tryz.f66, by kernel_rfl, true, false, false, false, by kernel_rfl⟩
theorem h61 (s : World → Nat → Prop) : (tab s).has 61 Go.Ag.WJ := ⟨Tryz.f67, by kernel_rfl, true, false, false, false, by kernel_rfl⟩
theorem h62 (s : World → Nat → Prop) : (tab s).has 62 Go.Ag.WI := ⟨Tryz.f68, by kernel_rfl, true, false, false, false, by kernel_rfl⟩
theorem h63 (s : World → Nat → Prop) : (tab s).has 63 Go.Ag.WH := ⟨Tryz.f97, by kernel_rfl, true, false, false, false, by kernel_rfl⟩
theorem h79 (s : World → Nat → Prop) : (tab s).has 79 Go.Ag.JR := ⟨Tryz.f92, by kernel_rfl, true, false, false, false, by kernel_rfl⟩
theorem h80 (s : World → Nat → Prop) : (tab s).has 80 Go.Ag.Pf := ⟨Tryz.f93, by kernel_rfl, true, false, false, false, by kernel_rfl⟩
theorem h81 (s : World → Nat → Prop) : (tab s).has 81 Go.Ag.Pe := ⟨Tryz.f94, by kernel_rfl, true, false, false, false, by kernel_rfl⟩
theorem h82 (s : World → Nat → Prop) : (tab s).has 82 Go.Ag.Pd := ⟨Tryz.f95, by kernel_rfl, true, false, false, false, by kernel_rfl⟩
theorem h83 (s : World → Nat → Prop) : (tab s).has 83 Go.Ag.WG := ⟨Tryz.f96, by kernel_rfl, true, false, false, false, by kernel_rfl⟩
theorem h84 (s : World → Nat → Prop) : (tab s).has 84 Go.Ag.Vs := ⟨Tryz.f117, by kernel_rfl, true, false, false, false, by kernel_rfl⟩
theorem h85 (s : World → Nat → Prop) : (tab s).has 85 Go.Ag.Vr := ⟨Tryz.f118, by kernel_rfl, true, false, false, false, by kernel_rfl⟩
theorem h96 (s : World → Nat → Prop) : (tab s).has 96 Go.Ag.WE := ⟨Tryz.f116, by kernel_rfl, true, false, false, false, by kernel_rfl⟩
theorem OT (s : World → Nat → Prop) : (tab s).has 104 Go.Ag.Nq := ⟨Tryz.f133, by kernel_rfl, true, false, false, false, by kernel_rfl⟩
theorem QU (s : World → Nat → Prop) : (tab s).has 129 Go.Ag.JY := ⟨Tryz.f4, by kernel_rfl, true, false, false, false, by kernel_rfl⟩
theorem Vg (s : World → Nat → Prop) : (tab s).has 141 Go.Ag.Sr := ⟨Tryz.f5, by kernel_rfl, true, false, false, false, by kernel_rfl⟩
theorem Vf (s : World → Nat → Prop) : (tab s).has 142 Go.Ag.Sq := ⟨Tryz.f6, by kernel_rfl, true, false, false, false, by kernel_rfl⟩
theorem Ve (s : World → Nat → Prop) : (tab s).has 143 Go.Ag.Sn := ⟨Tryz.f7, by kernel_rfl, true, false, false, false, by kernel_rfl⟩
theorem Vd (s : World → Nat → Prop) : (tab s).has 144 Go.Ag.Sm := ⟨Tryz.f8, by kernel_rfl, true, false, false, false, by kernel_rfl⟩
theorem Jo (s : World → Nat → Prop) : (tab s).has 145 Go.Ag.Np := ⟨Tryz.f9, by kernel_rfl, true, false, false, false, by kernel_rfl⟩
theorem Vb (s : World → Nat → Prop) : (tab s).has 146 Go.Ag.Sl := ⟨Tryz.f10, by kernel_rfl, true, false, false, false, by kernel_rfl⟩
theorem QT (s : World → Nat → Prop) : (tab s).has 147 Go.Ag.Nn := ⟨Tryz.f11, by kernel_rfl, true, false, false, false, by kernel_rfl⟩
theorem Va (s : World → Nat → Prop) : (tab s).has 148 Go.Ag.Sk := ⟨Tryz.f12, by kernel_rfl, true, false, false, false, by kernel_rfl⟩
theorem U9 (s : World → Nat → Prop) : (tab s).has 149 Go.Ag.Sj := ⟨Tryz.f13, by kernel_rfl, true, false, false, false, by kernel_rfl⟩
theorem U8 (s : World → Nat → Prop) : (tab s).has 150 Go.Ag.Si := ⟨Tryz.f14, by kernel_rfl, true, false, false, false, by kernel_rfl⟩
theorem U7 (s : World → Nat → Prop) : (tab s).has 151 Go.Ag.Sg := ⟨Tryz.f15, by kernel_rfl, true, false, false, false, by kernel_rfl⟩
theorem U6 (s : World → Nat → Prop) : (tab s).has 153 Go.Ag.Sd := ⟨Tryz.f23, by kernel_rfl, true, false, false, false, by kernel_rfl⟩
theorem U5 (s : World → Nat → Prop) : (tab s).has 182 Go.Ag.Sc := ⟨Tryz.f16, by kernel_rfl, true, false, false, false, by kernel_rfl⟩
theorem U4 (s : World → Nat → Prop) : (tab s).has 183 Go.Ag.Sb := ⟨Tryz.f17, by kernel_rfl, true, false, false, false, by kernel_rfl⟩
theorem U3 (s : World → Nat → Prop) : (tab s).has 184 Go.Ag.R9 := ⟨Tryz.f18, by kernel_rfl, true, false, false, false, by kernel_rfl⟩
theorem OQ (s : World → Nat → Prop) : (tab s).has 185 Go.Ag.Nl := ⟨Tryz.f19, by kernel_rfl, true, false, false, false, by kernel_rfl⟩
theorem U2 (s : World → Nat → Prop) : (tab s).has 186 Go.Ag.R8 := ⟨Tryz.f20, by kernel_rfl, true, false, false, false, by kernel_rfl⟩
theorem U1 (s : World → Nat → Prop) : (tab s).has 187 Go.Ag.R7 := ⟨Tryz.f21, by kernel_rfl, true, false, false, false, by kernel_rfl⟩
theorem U0 (s : World → Nat → Prop) : (tab s).has 188 Go.Ag.R6 := ⟨Tryz.f22, by kernel_rfl, true, false, false, false, by kernel_rfl⟩
theorem UZ (s : World → Nat → Prop) : (tab s).has 189 Go.Ag.R5 := ⟨Tryz.f24, by kernel_rfl, true, false, false, false, by kernel_rfl⟩
theorem Ll (s : World → Nat → Prop) : (tab s).has 190 Go.Ag.Nk := ⟨Tryz.f26, by kernel_rfl, true, false, false, false, by kernel_rfl⟩
theorem UY (s : World → Nat → Prop) : (tab s).has 191 Go.Ag.R4 := ⟨Tryz.f27, by kernel_rfl, true, false, false, false, by kernel_rfl⟩
theorem UW (s : World → Nat → Prop) : (tab s).has 215 Go.Ag.R3 := ⟨Tryz.f28, by kernel_rfl, true, false, false, false, by kernel_rfl⟩
theorem UU (s : World → Nat → Prop) : (tab s).has 217 Go.Ag.RZ := ⟨Tryz.f30, by kernel_rfl, true, false, false, false, by kernel_rfl⟩
theorem UR (s : World → Nat → Prop) : (tab s).has 218 Go.Ag.RY := ⟨Tryz.f31, by kernel_rfl, true, false, false, false, by kernel_rfl⟩
theorem UQ (s : World → Nat → Prop) : (tab s).has 219 Go.Ag.RX := ⟨Tryz.f32, by kernel_rfl, true, false, false, false, by kernel_rfl⟩
theorem UO (s : World → Nat → Prop) : (tab s).has 220 Go.Ag.RV := ⟨Tryz.f33, by kernel_rfl, true, false, false, false, by kernel_rfl⟩
theorem UN (s : World → Nat → Prop) : (tab s).has 221 Go.Ag.RU := ⟨Tryz.f34, by kernel_rfl, true, false, false, false, by kernel_rfl⟩
theorem Jm (s : World → Nat → Prop) : (tab s).has 222 Go.Ag.Nj := ⟨Tryz.f35, by kernel_rfl, true, false, false, false, by kernel_rfl⟩
theorem OP (s : World → Nat → Prop) : (tab s).has 223 Go.Ag.Ni := ⟨Tryz.f36, by kernel_rfl, true, false, false, false, by kernel_rfl⟩
theorem UM (s : World → Nat → Prop) : (tab s).has 224 Go.Ag.RQ := ⟨Tryz.f37, by kernel_rfl, true, false, false, false, by kernel_rfl⟩
theorem OO (s : World → Nat → Prop) : (tab s).has 225 Go.Ag.Nh := ⟨Tryz.f39, by kernel_rfl, true, false, false, false, by kernel_rfl⟩
theorem UL (s : World → Nat → Prop) : (tab s).has 226 Go.Ag.RP := ⟨Tryz.f40, by kernel_rfl, true, false, false, false, by kernel_rfl⟩
theorem UK (s : World → Nat → Prop) : (tab s).has 227 Go.Ag.RO := ⟨Tryz.f41, by kernel_rfl, true, false, false, false, by kernel_rfl⟩
theorem UJ (s : World → Nat → Prop) : (tab s).has 228 Go.Ag.RN := ⟨Tryz.f42, by kernel_rfl, true, false, false, false, by kernel_rfl⟩
theorem UH (s : World → Nat → Prop) : (tab s).has 229 Go.Ag.RL := ⟨Tryz.f43, by kernel_rfl, true, false, false, false, by kernel_rfl⟩
theorem UG (s : World → Nat → Prop) : (tab s).has 230 Go.Ag.RJ := ⟨Tryz.f47, by kernel_rfl, true, false, false, false, by kernel_rfl⟩
theorem UF (s : World → Nat → Prop) : (tab s).has 246 Go.Ag.RI := ⟨Tryz.f48, by kernel_rfl, true, false, false, false, by kernel_rfl⟩
theorem UE (s : World → Nat → Prop) : (tab s).has 248 Go.Ag.RH := ⟨Tryz.f50, by kernel_rfl, true, false, false, false, by kernel_rfl⟩
theorem UD (s : World → Nat → Prop) : (tab s).has 249 Go.Ag.RG := ⟨Tryz.f51, by kernel_rfl, true, false, false, false, by kernel_rfl⟩
theorem UC (s : World → Nat → Prop) : (tab s).has 250 Go.Ag.RF := ⟨Tryz.f52, by kernel_rfl, true, false, false, false, by kernel_rfl⟩
theorem OM (s : World → Nat → Prop) : (tab s).has 251 Go.Ag.Ng := ⟨Tryz.f53, by kernel_rfl, true, false, false, false, by kernel_rfl⟩
theorem Wy (s : World → Nat → Prop) : (tab s).has 253 Go.Ag.VI := ⟨Tryz.f55, by kernel_rfl, true, false, false, false, by kernel_rfl⟩
theorem QS (s : World → Nat → Prop) : (tab s).has 255 Go.Ag.Nf := ⟨Tryz.f57, by kernel_rfl, true, false, true, false, by kernel_rfl⟩
theorem Gy (s : World → Nat → Prop) : (tab s).has 256 Go.Ag.JX := ⟨Tryz.f58, by kernel_rfl, true, false, false, false, by kernel_rfl⟩
theorem Jj (s : World → Nat → Prop) : (tab s).has 257 Go.Ag.Nc := ⟨Tryz.f59, by kernel_rfl, true, false, false, false, by kernel_rfl⟩
theorem OL (s : World → Nat → Prop) : (tab s).has 258 Go.Ag.Nb := ⟨Tryz.f60, by kernel_rfl, true, false, false, false, by kernel_rfl⟩
theorem UA (s : World → Nat → Prop) : (tab s).has 259 Go.Ag.RD := ⟨Tryz.f61, by kernel_rfl, true, false, false, false, by kernel_rfl⟩
theorem Uz (s : World → Nat → Prop) : (tab s).has 260 Go.Ag.RB := ⟨Tryz.f62, by kernel_rfl, true, false, false, false, by kernel_rfl⟩
theorem Uy (s : World → Nat → Prop) : (tab s).has 261 Go.Ag.RA := ⟨Tryz.f63, by kernel_rfl, true, false, false, false, by kernel_rfl⟩
theorem Ux (s : World → Nat → Prop) : (tab s).has 262 Go.Ag.Rz := ⟨Tryz.f70, by kernel_rfl, true, false, false, false, by kernel_rfl⟩
theorem Uw (s : World → Nat → Prop) : (tab s).has 263 Go.Ag.Ry := ⟨Tryz.f71, by kernel_rfl, true, false, false, false, by kernel_rfl⟩
theorem Uv (s : World → Nat → Prop) : (tab s).has 264 Go.Ag.Rx := ⟨Tryz.f72, by kernel_rfl, true, false, false, false, by kernel_rfl⟩
theorem Uu (s : World → Nat → Prop) : (tab s).has 265 Go.Ag.Rw := ⟨Tryz.f73, by kernel_rfl, true, false, false, false, by kernel_rfl⟩
theorem OJ (s : World → Nat → Prop) : (tab s).has 282 Go.Ag.Na := ⟨Tryz.f74, by kernel_rfl, true, false, false, false, by kernel_rfl⟩
theorem Ut (s : World → Nat → Prop) : (tab s).has 283 Go.Ag.M9 := ⟨Tryz.f75, by kernel_rfl, true, false, false, false, by kernel_rfl⟩
theorem QO (s : World → Nat → Prop) : (tab s).has 284 Go.Ag.JW := ⟨Tryz.f76, by kernel_rfl, true, false, false, false, by kernel_rfl⟩
theorem Us (s : World → Nat → Prop) : (tab s).has 285 Go.Ag.M8 := ⟨Tryz.f77, by kernel_rfl, true, false, false, false, by kernel_rfl⟩
theorem Ur (s : World → Nat → Prop) : (tab s).has 286 Go.Ag.M7 := ⟨Tryz.f78, by kernel_rfl, true, false, false, false, by kernel_rfl⟩
theorem Ji (s : World → Nat → Prop) : (tab s).has 287 Go.Ag.M6 := ⟨Tryz.f79, by kernel_rfl, true, false, false, false, by kernel_rfl⟩
theorem OI (s : World → Nat → Prop) : (tab s).has 288 Go.Ag.JV := ⟨Tryz.f80, by kernel_rfl, true, false, false, false, by kernel_rfl⟩
theorem Uq (s : World → Nat → Prop) : (tab s).has 289 Go.Ag.Rv := ⟨Tryz.f81, by kernel_rfl, true, false, false, false, by kernel_rfl⟩
theorem Uo (s : World → Nat → Prop) : (tab s).has 290 Go.Ag.Ru := ⟨Tryz.f82, by kernel_rfl, true, false, false, false, by kernel_rfl⟩
theorem Un (s : World → Nat → Prop) : (tab s).has 291 Go.Ag.M5 := ⟨Tryz.f83, by kernel_rfl, true, false, false, false, by kernel_rfl⟩
theorem OH (s : World → Nat → Prop) : (tab s).has 292 Go.Ag.M4 := ⟨Tryz.f85, by kernel_rfl, true, false, false, false, by kernel_rfl⟩
theorem Um (s : World → Nat → Prop) : (tab s).has 293 Go.Ag.Rt := ⟨Tryz.f86, by kernel_rfl, true, false, false, false, by kernel_rfl⟩
theorem OG (s : World → Nat → Prop) : (tab s).has 294 Go.Ag.M0 := ⟨Tryz.f87, by kernel_rfl, true, false, false, false, by kernel_rfl⟩
theorem Ul (s : World → Nat → Prop) : (tab s).has 296 Go.Ag.Rs := ⟨Tryz.f91, by kernel_rfl, true, false, false, false, by kernel_rfl⟩
theorem Uk (s : World → Nat → Prop) : (tab s).has 305 Go.Ag.JU := ⟨Tryz.f100, by kernel_rfl, true, false, false, false, by kernel_rfl⟩
theorem Uj (s : World → Nat → Prop) : (tab s).has 306 Go.Ag.Rq := ⟨Tryz.f102, by kernel_rfl, true, false, false, false, by kernel_rfl⟩
theorem Ui (s : World → Nat → Prop) : (tab s).has 307 Go.Ag.Rp := ⟨Tryz.f103, by kernel_rfl, true, false, false, false, by kernel_rfl⟩
theorem Uh (s : World → Nat → Prop) : (tab s).has 316 Go.Ag.Ro := ⟨Tryz.f115, by kernel_rfl, true, false, false, false, by kernel_rfl⟩
theorem CU (s : World → Nat → Prop) : (tab s).has 318 Go.Ag.Fq := ⟨Tryz.f124, by kernel_rfl, true, false, false, false, by kernel_rfl⟩
theorem Ug (s : World → Nat → Prop) : (tab s).has 323 Go.Ag.Rn := ⟨Tryz.f132, by kernel_rfl, true, false, false, false, by kernel_rfl⟩
end Go.Proofs.YtjampheggjpjdaaGreatDoor
