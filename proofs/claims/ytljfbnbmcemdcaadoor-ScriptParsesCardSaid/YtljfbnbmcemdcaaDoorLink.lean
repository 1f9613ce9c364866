/- This seat's functions bear our numbers: each function's code is the abstract code that we know. Printed by a program of ours (link.py). -/
import Derived.Test.YtljfbnbmcemdcaaDoorProg
import Derived.Test.YtljfbnbmcemdcaaDoorAgSound
import Derived.Test.YtljfbnbmcemdcaaDoorAgBld
import Derived.Test.YtljfbnbmcemdcaaDoorAgCScript
import Derived.KernelRfl
set_option maxRecDepth 100000
namespace Go.Proofs.YtljfbnbmcemdcaaDoor
open Go
def nums : List (Nat × Nat) := [(1, 0), (2, 1), (3, 2), (325, 3), (5, 4), (11, 5), (10, 6), (22, 7), (15, 8), (23, 9), (8, 10), (20, 11), (16, 12), (19, 13), (21, 14), (37, 15), (28, 16), (29, 17), (30, 18), (31, 19), (38, 20), (14, 21), (36, 22), (32, 23), (33, 24), (35, 25), (54, 26), (47, 27), (48, 28), (49, 29), (55, 30), (56, 31), (57, 32), (27, 33), (53, 34), (50, 35), (51, 36), (52, 37), (72, 38), (66, 39), (65, 40), (75, 41), (67, 42), (68, 43), (69, 44), (70, 45), (71, 46), (76, 47), (77, 48), (78, 49), (43, 50), (44, 51), (45, 52), (46, 53), (74, 54), (73, 55), (89, 56), (94, 57), (86, 58), (87, 59), (88, 60), (95, 61), (64, 62), (90, 63), (91, 64), (92, 65), (93, 66), (97, 67), (98, 68), (99, 69), (100, 70), (101, 71), (102, 72), (103, 73), (105, 74), (106, 75), (107, 76), (108, 77), (109, 78), (110, 79), (111, 80), (112, 81), (113, 82), (114, 83), (115, 84), (116, 85), (117, 86), (118, 87), (119, 88), (120, 89), (121, 90), (122, 91), (123, 92), (124, 93), (125, 94), (126, 95), (127, 105)]
def tys : List (Nat × Nat) := [(1, 0), (2, 1), (3, 2), (4, 3), (5, 4), (6, 5), (7, 6), (8, 7), (9, 8), (10, 9), (11, 10), (12, 11), (13, 12), (14, 13), (15, 14), (16, 15), (17, 16), (18, 17), (19, 18), (20, 19), (21, 20), (22, 21), (24, 22), (26, 23), (31, 24), (36, 25), (37, 26), (34, 27), (35, 28), (39, 29), (27, 30), (28, 31), (57, 32), (58, 33), (41, 34), (42, 35), (43, 36), (59, 37), (32, 38), (55, 39), (44, 40), (47, 41), (48, 42), (49, 43), (50, 44), (51, 45), (52, 46), (53, 47), (54, 48), (56, 49), (74, 50), (75, 51), (76, 52), (77, 53), (80, 54), (40, 55), (78, 56), (45, 57), (46, 58), (79, 59), (73, 60), (96, 61), (97, 62), (98, 63), (102, 64), (99, 65), (100, 66), (101, 67), (112, 68), (114, 69), (115, 70), (116, 71), (117, 72), (118, 73), (119, 74), (38, 75), (122, 76), (123, 77), (89, 78), (90, 79), (91, 80), (92, 81), (93, 82), (94, 83), (95, 84), (121, 85), (120, 86), (141, 87), (142, 88), (143, 89), (130, 90), (131, 91), (132, 92), (133, 93), (134, 94), (135, 95), (111, 96), (113, 97), (136, 98), (137, 99), (138, 100), (139, 101), (140, 102), (144, 103), (145, 104), (146, 105), (147, 106), (152, 107), (153, 108), (154, 109), (155, 110), (148, 111), (149, 112), (150, 113), (151, 114), (157, 115), (158, 116), (159, 117), (160, 118), (161, 119), (162, 120), (163, 121), (164, 122), (165, 123), (166, 124), (167, 125), (168, 126), (169, 127), (170, 128), (171, 129), (172, 130)]
noncomputable def lnk (start : World → Nat → Prop) : Go.Ag.Lnk := { P := Tryd.prog, num := fun g => (nums.find? (fun p => p.1 == g)).elim 0 (·.2), ty := fun t => (tys.find? (fun p => p.1 == t)).elim 0 (·.2), start := start }
noncomputable def tab (start : World → Nat → Prop) : Go.Ag.Tab := { L := lnk start, fg := fun f => (nums.find? (fun p => p.2 == f)).elim 0 (·.1), tg := fun t => (tys.find? (fun p => p.2 == t)).elim 0 (·.1) }
theorem h5 (s : World → Nat → Prop) : (tab s).has 5 Go.Ag.c_5 := ⟨Tryd.f4, by kernel_rfl, by kernel_rfl⟩
theorem h8 (s : World → Nat → Prop) : (tab s).has 8 Go.Ag.c_8 := ⟨Tryd.f10, by kernel_rfl, by kernel_rfl⟩
theorem h10 (s : World → Nat → Prop) : (tab s).has 10 Go.Ag.c_10 := ⟨Tryd.f6, by kernel_rfl, by kernel_rfl⟩
theorem h11 (s : World → Nat → Prop) : (tab s).has 11 Go.Ag.c_11 := ⟨Tryd.f5, by kernel_rfl, by kernel_rfl⟩
theorem h15 (s : World → Nat → Prop) : (tab s).has 15 Go.Ag.c_15 := ⟨Tryd.f8, by kernel_rfl, by kernel_rfl⟩
theorem h16 (s : World → Nat → Prop) : (tab s).has 16 Go.Ag.c_16 := ⟨Tryd.f12, by kernel_rfl, by kernel_rfl⟩
theorem h19 (s : World → Nat → Prop) : (tab s).has 19 Go.Ag.c_19 := ⟨Tryd.f13, by kernel_rfl, by kernel_rfl⟩
theorem h21 (s : World → Nat → Prop) : (tab s).has 21 Go.Ag.c_21 := ⟨Tryd.f14, by kernel_rfl, by kernel_rfl⟩
theorem h29 (s : World → Nat → Prop) : (tab s).has 29 Go.Ag.c_29 := ⟨Tryd.f17, by kernel_rfl, by kernel_rfl⟩
theorem h31 (s : World → Nat → Prop) : (tab s).has 31 Go.Ag.c_31 := ⟨Tryd.f19, by kernel_rfl, by kernel_rfl⟩
theorem h33 (s : World → Nat → Prop) : (tab s).has 33 Go.Ag.c_33 := ⟨Tryd.f24, by kernel_rfl, by kernel_rfl⟩
theorem h51 (s : World → Nat → Prop) : (tab s).has 51 Go.Ag.c_51 := ⟨Tryd.f36, by kernel_rfl, by kernel_rfl⟩
theorem h325 (s : World → Nat → Prop) : (tab s).has 325 Go.Ag.c_325 := ⟨Tryd.f3, by kernel_rfl, by kernel_rfl⟩
end Go.Proofs.YtljfbnbmcemdcaaDoor
