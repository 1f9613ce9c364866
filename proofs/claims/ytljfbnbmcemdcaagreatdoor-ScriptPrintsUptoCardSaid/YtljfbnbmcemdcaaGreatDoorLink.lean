/- This seat's functions bear our numbers: each function's code is the abstract code that we know. Printed by a program of ours (link.py). -/
import Derived.Test.YtljfbnbmcemdcaaGreatDoorProg
import Derived.Test.YtljfbnbmcemdcaaGreatDoorAgSound
import Derived.Test.YtljfbnbmcemdcaaGreatDoorAgBld
import Derived.Test.YtljfbnbmcemdcaaGreatDoorAgCScript
import Derived.Test.YtljfbnbmcemdcaaGreatDoorAgCRef
import Derived.Test.YtljfbnbmcemdcaaGreatDoorAgHex
import Derived.KernelRfl
set_option maxRecDepth 100000
namespace Go.Proofs.YtljfbnbmcemdcaaGreatDoor
open Go
def nums : List (Nat × Nat) := [(1, 0), (2, 1), (3, 2), (4, 3), (5, 4), (6, 5), (7, 6), (8, 7), (9, 8), (10, 9), (11, 10), (12, 11), (13, 12), (14, 13), (15, 14), (16, 15), (17, 16), (18, 17), (19, 18), (20, 19), (21, 20), (22, 21), (23, 22), (24, 23), (25, 24), (26, 25), (27, 26), (28, 27), (29, 28), (30, 29), (31, 30), (32, 31), (33, 32), (34, 33), (35, 34), (36, 35), (37, 36), (38, 37), (39, 38), (40, 39), (41, 40), (42, 41), (43, 42), (44, 43), (45, 44), (46, 45), (47, 46), (48, 47), (49, 48), (50, 49), (51, 50), (52, 51), (53, 52), (54, 53), (55, 54), (56, 55), (57, 56), (58, 57), (59, 58), (60, 59), (61, 60), (62, 61), (63, 62), (64, 63), (65, 64), (66, 65), (67, 66), (68, 67), (69, 68), (70, 69), (71, 70), (72, 71), (73, 72), (74, 73), (75, 74), (76, 75), (77, 76), (78, 77), (79, 78), (80, 79), (81, 80), (82, 81), (83, 82), (84, 83), (85, 84), (86, 85), (87, 86), (88, 87), (89, 88), (90, 89), (91, 90), (92, 91), (93, 92), (94, 93), (95, 94), (96, 95), (97, 96), (98, 97), (99, 98), (100, 99), (101, 100), (102, 101), (103, 102), (104, 103), (105, 104), (106, 105), (107, 106), (108, 107), (109, 108), (110, 109), (111, 110), (112, 111), (113, 112), (114, 113), (115, 114), (116, 115), (117, 116), (118, 117), (119, 118), (120, 119), (121, 120), (122, 121), (123, 122), (124, 123), (125, 124), (126, 125), (127, 135)]
def tys : List (Nat × Nat) := [(1, 0), (2, 1), (3, 2), (4, 3), (5, 4), (6, 5), (7, 6), (8, 7), (9, 8), (10, 9), (11, 10), (12, 11), (13, 12), (14, 13), (15, 14), (16, 15), (17, 16), (18, 17), (19, 18), (20, 19), (21, 20), (22, 21), (23, 22), (24, 23), (25, 24), (26, 25), (27, 26), (28, 27), (29, 28), (30, 29), (31, 30), (32, 31), (33, 32), (34, 33), (35, 34), (36, 35), (37, 36), (38, 37), (39, 38), (40, 39), (41, 40), (42, 41), (43, 42), (44, 43), (45, 44), (46, 45), (47, 46), (48, 47), (49, 48), (50, 49), (51, 50), (52, 51), (53, 52), (54, 53), (55, 54), (56, 55), (57, 56), (58, 57), (59, 58), (60, 59), (61, 60), (62, 61), (63, 62), (64, 63), (65, 64), (66, 65), (67, 66), (68, 67), (69, 68), (70, 69), (71, 70), (72, 71), (73, 72), (74, 73), (75, 74), (76, 75), (77, 76), (78, 77), (79, 78), (80, 79), (81, 80), (82, 81), (83, 82), (84, 83), (85, 84), (86, 85), (87, 86), (88, 87), (89, 88), (90, 89), (91, 90), (92, 91), (93, 92), (94, 93), (95, 94), (96, 95), (97, 96), (98, 97), (99, 98), (100, 99), (101, 100), (102, 101), (103, 102), (104, 103), (105, 104), (106, 105), (107, 106), (108, 107), (109, 108), (110, 109), (111, 110), (112, 111), (113, 112), (114, 113), (115, 114), (116, 115), (117, 116), (118, 117), (119, 118), (120, 119), (121, 120), (122, 121), (123, 122), (124, 123), (125, 124), (126, 125), (127, 126), (128, 127), (129, 128), (130, 129), (131, 130), (132, 131), (133, 132), (134, 133), (135, 134), (136, 135), (137, 136), (138, 137), (139, 138), (140, 139), (141, 140), (142, 141), (143, 142), (144, 143), (145, 144), (146, 145), (147, 146), (148, 147), (149, 148), (150, 149), (151, 150), (152, 151), (153, 152), (154, 153), (155, 154), (156, 155), (157, 156), (158, 157), (159, 158), (160, 159), (161, 160), (162, 161), (163, 162), (164, 163), (165, 164), (166, 165), (167, 166), (168, 167), (169, 168), (170, 169), (171, 170), (172, 171)]
noncomputable def lnk (start : World → Nat → Prop) : Go.Ag.Lnk := { P := Tryz.prog, num := fun g => (nums.find? (fun p => p.1 == g)).elim 0 (·.2), ty := fun t => (tys.find? (fun p => p.1 == t)).elim 0 (·.2), start := start }
noncomputable def tab (start : World → Nat → Prop) : Go.Ag.Tab := { L := lnk start, fg := fun f => (nums.find? (fun p => p.2 == f)).elim 0 (·.1), tg := fun t => (tys.find? (fun p => p.2 == t)).elim 0 (·.1) }
theorem h5 (s : World → Nat → Prop) : (tab s).has 5 Go.Ag.c_5 := ⟨Tryz.f4, by kernel_rfl, true, false, by kernel_rfl⟩
theorem h8 (s : World → Nat → Prop) : (tab s).has 8 Go.Ag.c_8 := ⟨Tryz.f7, by kernel_rfl, false, false, by kernel_rfl⟩
theorem h10 (s : World → Nat → Prop) : (tab s).has 10 Go.Ag.c_10 := ⟨Tryz.f9, by kernel_rfl, false, false, by kernel_rfl⟩
theorem h11 (s : World → Nat → Prop) : (tab s).has 11 Go.Ag.c_11 := ⟨Tryz.f10, by kernel_rfl, false, false, by kernel_rfl⟩
theorem h15 (s : World → Nat → Prop) : (tab s).has 15 Go.Ag.c_15 := ⟨Tryz.f14, by kernel_rfl, false, false, by kernel_rfl⟩
theorem h16 (s : World → Nat → Prop) : (tab s).has 16 Go.Ag.c_16 := ⟨Tryz.f15, by kernel_rfl, false, false, by kernel_rfl⟩
theorem h19 (s : World → Nat → Prop) : (tab s).has 19 Go.Ag.c_19 := ⟨Tryz.f18, by kernel_rfl, true, false, by kernel_rfl⟩
theorem h21 (s : World → Nat → Prop) : (tab s).has 21 Go.Ag.c_21 := ⟨Tryz.f20, by kernel_rfl, true, false, by kernel_rfl⟩
theorem h29 (s : World → Nat → Prop) : (tab s).has 29 Go.Ag.c_29 := ⟨Tryz.f28, by kernel_rfl, true, false, by kernel_rfl⟩
theorem h31 (s : World → Nat → Prop) : (tab s).has 31 Go.Ag.c_31 := ⟨Tryz.f30, by kernel_rfl, true, false, by kernel_rfl⟩
theorem h33 (s : World → Nat → Prop) : (tab s).has 33 Go.Ag.c_33 := ⟨Tryz.f32, by kernel_rfl, true, false, by kernel_rfl⟩
theorem h51 (s : World → Nat → Prop) : (tab s).has 51 Go.Ag.c_51 := ⟨Tryz.f50, by kernel_rfl, true, false, by kernel_rfl⟩
theorem h41 (s : World → Nat → Prop) : (tab s).has 41 Go.Ag.c_41 := ⟨Tryz.f40, by kernel_rfl, true, false, by kernel_rfl⟩
theorem h60 (s : World → Nat → Prop) : (tab s).has 60 Go.Ag.c_60 := ⟨Tryz.f59, by kernel_rfl, true, false, by kernel_rfl⟩
theorem h59 (s : World → Nat → Prop) : (tab s).has 59 Go.Ag.c_59 := ⟨Tryz.f58, by kernel_rfl, true, false, by kernel_rfl⟩
theorem h61 (s : World → Nat → Prop) : (tab s).has 61 Go.Ag.c_61 := ⟨Tryz.f60, by kernel_rfl, true, false, by kernel_rfl⟩
theorem h62 (s : World → Nat → Prop) : (tab s).has 62 Go.Ag.c_62 := ⟨Tryz.f61, by kernel_rfl, true, false, by kernel_rfl⟩
theorem h83 (s : World → Nat → Prop) : (tab s).has 83 Go.Ag.c_83 := ⟨Tryz.f82, by kernel_rfl, true, false, by kernel_rfl⟩
theorem h96 (s : World → Nat → Prop) : (tab s).has 96 Go.Ag.c_96 := ⟨Tryz.f95, by kernel_rfl, true, false, by kernel_rfl⟩
theorem h85 (s : World → Nat → Prop) : (tab s).has 85 Go.Ag.c_85 := ⟨Tryz.f84, by kernel_rfl, true, false, by kernel_rfl⟩
theorem h104 (s : World → Nat → Prop) : (tab s).has 104 Go.Ag.c_104 := ⟨Tryz.f103, by kernel_rfl, true, false, by kernel_rfl⟩
theorem h42 (s : World → Nat → Prop) : (tab s).has 42 Go.Ag.c_42 := ⟨Tryz.f41, by kernel_rfl, true, false, by kernel_rfl⟩
theorem h63 (s : World → Nat → Prop) : (tab s).has 63 Go.Ag.c_63 := ⟨Tryz.f62, by kernel_rfl, true, false, by kernel_rfl⟩
theorem h84 (s : World → Nat → Prop) : (tab s).has 84 Go.Ag.c_84 := ⟨Tryz.f83, by kernel_rfl, true, false, by kernel_rfl⟩
theorem h40 (s : World → Nat → Prop) : (tab s).has 40 Go.Ag.c_40 := ⟨Tryz.f39, by kernel_rfl, true, false, by kernel_rfl⟩
theorem h39 (s : World → Nat → Prop) : (tab s).has 39 Go.Ag.c_39 := ⟨Tryz.f38, by kernel_rfl, true, false, by kernel_rfl⟩
theorem h58 (s : World → Nat → Prop) : (tab s).has 58 Go.Ag.c_58 := ⟨Tryz.f57, by kernel_rfl, true, false, by kernel_rfl⟩
theorem h79 (s : World → Nat → Prop) : (tab s).has 79 Go.Ag.c_79 := ⟨Tryz.f78, by kernel_rfl, true, false, by kernel_rfl⟩
theorem h80 (s : World → Nat → Prop) : (tab s).has 80 Go.Ag.c_80 := ⟨Tryz.f79, by kernel_rfl, true, false, by kernel_rfl⟩
theorem h81 (s : World → Nat → Prop) : (tab s).has 81 Go.Ag.c_81 := ⟨Tryz.f80, by kernel_rfl, true, false, by kernel_rfl⟩
theorem h82 (s : World → Nat → Prop) : (tab s).has 82 Go.Ag.c_82 := ⟨Tryz.f81, by kernel_rfl, true, false, by kernel_rfl⟩
theorem h24 (s : World → Nat → Prop) : (tab s).has 24 Go.Ag.c_24 := ⟨Tryz.f23, by kernel_rfl, true, false, by kernel_rfl⟩
theorem h26 (s : World → Nat → Prop) : (tab s).has 26 Go.Ag.c_26 := ⟨Tryz.f25, by kernel_rfl, true, false, by kernel_rfl⟩
theorem h25 (s : World → Nat → Prop) : (tab s).has 25 Go.Ag.c_25 := ⟨Tryz.f24, by kernel_rfl, true, false, by kernel_rfl⟩
theorem h12 (s : World → Nat → Prop) : (tab s).has 12 Go.Ag.c_12 := ⟨Tryz.f11, by kernel_rfl, true, false, by kernel_rfl⟩
theorem h6 (s : World → Nat → Prop) : (tab s).has 6 Go.Ag.c_6 := ⟨Tryz.f5, by kernel_rfl, true, false, by kernel_rfl⟩
theorem h7 (s : World → Nat → Prop) : (tab s).has 7 Go.Ag.c_7 := ⟨Tryz.f6, by kernel_rfl, true, false, by kernel_rfl⟩
theorem h9 (s : World → Nat → Prop) : (tab s).has 9 Go.Ag.c_9 := ⟨Tryz.f8, by kernel_rfl, true, false, by kernel_rfl⟩
theorem h13 (s : World → Nat → Prop) : (tab s).has 13 Go.Ag.c_13 := ⟨Tryz.f12, by kernel_rfl, true, false, by kernel_rfl⟩
theorem h17 (s : World → Nat → Prop) : (tab s).has 17 Go.Ag.c_17 := ⟨Tryz.f16, by kernel_rfl, true, false, by kernel_rfl⟩
theorem h34 (s : World → Nat → Prop) : (tab s).has 34 Go.Ag.c_34 := ⟨Tryz.f33, by kernel_rfl, true, false, by kernel_rfl⟩
theorem h4 (s : World → Nat → Prop) : (tab s).has 4 Go.Ag.c_4 := ⟨Tryz.f3, by kernel_rfl, true, false, by kernel_rfl⟩
theorem h18 (s : World → Nat → Prop) : (tab s).has 18 Go.Ag.c_18 := ⟨Tryz.f17, by kernel_rfl, true, true, by kernel_rfl⟩
end Go.Proofs.YtljfbnbmcemdcaaGreatDoor
