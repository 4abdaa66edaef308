/- The types that the code of this seat names, and that the program says so. By a program of this session (wip/tab.py). -/
import Derived.Test.YthpcahgdobnljaaGreatRxB
import Derived.Test.YthpcahgdobnljaaGreatProg
set_option maxRecDepth 100000
namespace Go.Proofs.YthpcahgdobnljaaGreat
open Go.RX Go
def tab : Tab := [
  (1, ⟨.other, 1, 8, .nilFunc⟩),
  (2, ⟨(.int .i64), 1, 8, (.int .i64 0)⟩),
  (3, ⟨(.int .i64), 1, 8, (.int .i64 0)⟩),
  (4, ⟨.bool, 1, 1, (.bool false)⟩),
  (5, ⟨(.int .u8), 1, 1, (.int .u8 0)⟩),
  (6, ⟨(.int .u8), 1, 1, (.int .u8 0)⟩),
  (7, ⟨(.struct [(0, 2), (1, 3), (2, 4), (3, 6)]), 4, 24, (.agg #[(.int .i64 0), (.int .i64 0), (.bool false), (.int .u8 0)])⟩),
  (8, ⟨(.struct [(0, 2), (1, 3), (2, 4), (3, 6)]), 4, 24, (.agg #[(.int .i64 0), (.int .i64 0), (.bool false), (.int .u8 0)])⟩),
  (9, ⟨.str, 1, 16, (.string ⟨#[]⟩)⟩),
  (10, ⟨.str, 1, 16, (.string ⟨#[]⟩)⟩),
  (11, ⟨.str, 1, 16, (.string ⟨#[]⟩)⟩),
  (12, ⟨(.int .u64), 1, 8, (.int .u64 0)⟩),
  (13, ⟨(.struct [(0, 9), (1, 12)]), 2, 24, (.agg #[(.string ⟨#[]⟩), (.int .u64 0)])⟩),
  (14, ⟨(.struct [(0, 9), (1, 12)]), 2, 24, (.agg #[(.string ⟨#[]⟩), (.int .u64 0)])⟩),
  (15, ⟨(.ptr 266), 1, 8, (.pointer none)⟩),
  (16, ⟨(.ptr 269), 1, 8, (.pointer none)⟩),
  (17, ⟨(.ptr 277), 1, 8, (.pointer none)⟩),
  (18, ⟨(.struct [(0, 17)]), 1, 8, (.agg #[(.pointer none)])⟩),
  (19, ⟨(.struct [(0, 17)]), 1, 8, (.agg #[(.pointer none)])⟩),
  (21, ⟨(.int .i32), 1, 4, (.int .i32 0)⟩),
  (22, ⟨(.slice 28), 1, 24, (.slice none 0 0)⟩),
  (23, ⟨.other, 1, 8, .nilFunc⟩),
  (24, ⟨(.ptr 34), 1, 8, (.pointer none)⟩),
  (25, ⟨.other, 1, 8, .nilFunc⟩),
  (26, ⟨.other, 1, 8, .nilFunc⟩),
  (27, ⟨(.struct [(0, 5), (1, 5), (2, 5), (3, 2)]), 4, 16, (.agg #[(.int .u8 0), (.int .u8 0), (.int .u8 0), (.int .i64 0)])⟩),
  (28, ⟨(.struct [(0, 5), (1, 5), (2, 5), (3, 2)]), 4, 16, (.agg #[(.int .u8 0), (.int .u8 0), (.int .u8 0), (.int .i64 0)])⟩),
  (29, ⟨(.ptr 136), 1, 8, (.pointer none)⟩),
  (30, ⟨(.ptr 106), 1, 8, (.pointer none)⟩),
  (31, ⟨(.ptr 118), 1, 8, (.pointer none)⟩),
  (32, ⟨(.ptr 100), 1, 8, (.pointer none)⟩),
  (33, ⟨(.struct [(0, 29), (1, 30), (2, 31), (3, 32)]), 4, 32, (.agg #[(.pointer none), (.pointer none), (.pointer none), (.pointer none)])⟩),
  (34, ⟨(.struct [(0, 29), (1, 30), (2, 31), (3, 32)]), 4, 32, (.agg #[(.pointer none), (.pointer none), (.pointer none), (.pointer none)])⟩),
  (35, ⟨.other, 1, 8, .nilFunc⟩),
  (36, ⟨(.slice 50), 1, 24, (.slice none 0 0)⟩),
  (37, ⟨(.ptr 127), 1, 8, (.pointer none)⟩),
  (38, ⟨.other, 1, 8, .nilFunc⟩),
  (39, ⟨.other, 1, 8, .nilFunc⟩),
  (40, ⟨(.slice 2), 1, 24, (.slice none 0 0)⟩),
  (41, ⟨(.struct [(0, 2), (1, 40)]), 2, 32, (.agg #[(.int .i64 0), (.slice none 0 0)])⟩),
  (42, ⟨(.struct [(0, 2), (1, 40)]), 2, 32, (.agg #[(.int .i64 0), (.slice none 0 0)])⟩),
  (43, ⟨(.struct [(0, 2), (1, 42), (3, 2)]), 4, 48, (.agg #[(.int .i64 0), (.int .i64 0), (.slice none 0 0), (.int .i64 0)])⟩),
  (44, ⟨(.struct [(0, 2), (1, 42), (3, 2)]), 4, 48, (.agg #[(.int .i64 0), (.int .i64 0), (.slice none 0 0), (.int .i64 0)])⟩),
  (46, ⟨(.ptr 131), 1, 8, (.pointer none)⟩),
  (47, ⟨.other, 1, 8, .nilFunc⟩),
  (48, ⟨.other, 1, 8, .nilFunc⟩),
  (49, ⟨(.struct [(0, 9), (1, 2), (2, 2)]), 3, 32, (.agg #[(.string ⟨#[]⟩), (.int .i64 0), (.int .i64 0)])⟩),
  (50, ⟨(.struct [(0, 9), (1, 2), (2, 2)]), 3, 32, (.agg #[(.string ⟨#[]⟩), (.int .i64 0), (.int .i64 0)])⟩),
  (51, ⟨.other, 1, 8, .nilFunc⟩),
  (52, ⟨.other, 1, 8, .nilFunc⟩),
  (53, ⟨.other, 1, 8, .nilFunc⟩),
  (54, ⟨.other, 1, 8, .nilFunc⟩),
  (55, ⟨(.int .i64), 1, 8, (.int .i64 0)⟩),
  (57, ⟨.other, 1, 8, .nilFunc⟩),
  (58, ⟨.other, 1, 8, .nilFunc⟩),
  (60, ⟨.other, 1, 8, .nilFunc⟩),
  (61, ⟨.other, 1, 8, .nilFunc⟩),
  (62, ⟨(.struct [(0, 2), (1, 9)]), 2, 24, (.agg #[(.int .i64 0), (.string ⟨#[]⟩)])⟩),
  (63, ⟨(.struct [(0, 2), (1, 9)]), 2, 24, (.agg #[(.int .i64 0), (.string ⟨#[]⟩)])⟩),
  (64, ⟨(.struct [(0, 2), (1, 2), (2, 9), (3, 3), (4, 3), (5, 5), (6, 63)]), 8, 80, (.agg #[(.int .i64 0), (.int .i64 0), (.string ⟨#[]⟩), (.int .i64 0), (.int .i64 0), (.int .u8 0), (.int .i64 0), (.string ⟨#[]⟩)])⟩),
  (65, ⟨(.struct [(0, 2), (1, 2), (2, 9), (3, 3), (4, 3), (5, 5), (6, 63)]), 8, 80, (.agg #[(.int .i64 0), (.int .i64 0), (.string ⟨#[]⟩), (.int .i64 0), (.int .i64 0), (.int .u8 0), (.int .i64 0), (.string ⟨#[]⟩)])⟩),
  (66, ⟨.other, 1, 8, .nilFunc⟩),
  (67, ⟨.other, 1, 8, .nilFunc⟩),
  (68, ⟨.other, 1, 8, .nilFunc⟩),
  (70, ⟨.other, 1, 8, .nilFunc⟩),
  (71, ⟨.other, 1, 8, .nilFunc⟩),
  (72, ⟨(.slice 65), 1, 24, (.slice none 0 0)⟩),
  (73, ⟨(.ptr 146), 1, 8, (.pointer none)⟩),
  (74, ⟨.other, 1, 8, .nilFunc⟩),
  (75, ⟨.other, 1, 8, .nilFunc⟩),
  (76, ⟨.other, 1, 8, .nilFunc⟩),
  (78, ⟨.other, 1, 8, .nilFunc⟩),
  (79, ⟨.other, 1, 8, .nilFunc⟩),
  (80, ⟨.other, 1, 8, .nilFunc⟩),
  (81, ⟨.other, 1, 8, .nilFunc⟩),
  (82, ⟨.other, 1, 8, .nilFunc⟩),
  (83, ⟨.other, 1, 8, .nilFunc⟩),
  (84, ⟨(.ptr 184), 1, 8, (.pointer none)⟩),
  (85, ⟨.other, 1, 8, .nilFunc⟩),
  (86, ⟨.other, 1, 8, .nilFunc⟩),
  (87, ⟨(.slice 101), 1, 24, (.slice none 0 0)⟩),
  (88, ⟨(.struct [(0, 87)]), 1, 24, (.agg #[(.slice none 0 0)])⟩),
  (89, ⟨(.struct [(0, 87)]), 1, 24, (.agg #[(.slice none 0 0)])⟩),
  (90, ⟨(.array 3 72), 3, 72, (.agg #[(.slice none 0 0), (.slice none 0 0), (.slice none 0 0)])⟩),
  (91, ⟨(.struct [(0, 90), (3, 3)]), 4, 80, (.agg #[(.slice none 0 0), (.slice none 0 0), (.slice none 0 0), (.int .i64 0)])⟩),
  (92, ⟨(.struct [(0, 90), (3, 3)]), 4, 80, (.agg #[(.slice none 0 0), (.slice none 0 0), (.slice none 0 0), (.int .i64 0)])⟩),
  (93, ⟨(.slice 44), 1, 24, (.slice none 0 0)⟩),
  (94, ⟨(.struct [(0, 93), (1, 2)]), 2, 32, (.agg #[(.slice none 0 0), (.int .i64 0)])⟩),
  (95, ⟨(.struct [(0, 93), (1, 2)]), 2, 32, (.agg #[(.slice none 0 0), (.int .i64 0)])⟩),
  (96, ⟨(.slice 205), 1, 24, (.slice none 0 0)⟩),
  (97, ⟨(.struct [(0, 96)]), 1, 24, (.agg #[(.slice none 0 0)])⟩),
  (98, ⟨(.struct [(0, 96)]), 1, 24, (.agg #[(.slice none 0 0)])⟩),
  (99, ⟨(.struct [(0, 30), (1, 92), (5, 95), (7, 89), (8, 98), (9, 2)]), 10, 176, (.agg #[(.pointer none), (.slice none 0 0), (.slice none 0 0), (.slice none 0 0), (.int .i64 0), (.slice none 0 0), (.int .i64 0), (.slice none 0 0), (.slice none 0 0), (.int .i64 0)])⟩),
  (100, ⟨(.struct [(0, 30), (1, 92), (5, 95), (7, 89), (8, 98), (9, 2)]), 10, 176, (.agg #[(.pointer none), (.slice none 0 0), (.slice none 0 0), (.slice none 0 0), (.int .i64 0), (.slice none 0 0), (.int .i64 0), (.slice none 0 0), (.slice none 0 0), (.int .i64 0)])⟩),
  (101, ⟨(.struct [(0, 9), (1, 2), (2, 2)]), 3, 32, (.agg #[(.string ⟨#[]⟩), (.int .i64 0), (.int .i64 0)])⟩),
  (102, ⟨.other, 1, 8, .nilFunc⟩),
  (103, ⟨.other, 1, 8, .nilFunc⟩),
  (104, ⟨(.slice 5), 1, 24, (.slice none 0 0)⟩),
  (105, ⟨(.struct [(0, 104)]), 1, 24, (.agg #[(.slice none 0 0)])⟩),
  (106, ⟨(.struct [(0, 104)]), 1, 24, (.agg #[(.slice none 0 0)])⟩),
  (107, ⟨.other, 1, 8, .nilFunc⟩),
  (108, ⟨.other, 1, 8, .nilFunc⟩),
  (109, ⟨.other, 1, 8, .nilFunc⟩),
  (110, ⟨.other, 1, 8, .nilFunc⟩),
  (111, ⟨.other, 1, 8, .nilFunc⟩),
  (112, ⟨.other, 1, 8, .nilFunc⟩),
  (113, ⟨.other, 1, 8, .nilFunc⟩),
  (114, ⟨.other, 1, 8, .nilFunc⟩),
  (116, ⟨.other, 1, 8, .nilFunc⟩),
  (117, ⟨(.struct [(0, 29), (1, 73), (2, 46), (3, 37), (4, 84), (5, 2)]), 6, 48, (.agg #[(.pointer none), (.pointer none), (.pointer none), (.pointer none), (.pointer none), (.int .i64 0)])⟩),
  (118, ⟨(.struct [(0, 29), (1, 73), (2, 46), (3, 37), (4, 84), (5, 2)]), 6, 48, (.agg #[(.pointer none), (.pointer none), (.pointer none), (.pointer none), (.pointer none), (.int .i64 0)])⟩),
  (119, ⟨(.slice 9), 1, 24, (.slice none 0 0)⟩),
  (120, ⟨.other, 1, 8, .nilFunc⟩),
  (121, ⟨.other, 1, 8, .nilFunc⟩),
  (122, ⟨.other, 1, 8, .nilFunc⟩),
  (123, ⟨.other, 1, 8, .nilFunc⟩),
  (124, ⟨(.map 9 125), 1, 8, (.map none)⟩),
  (125, ⟨(.ptr 50), 1, 8, (.pointer none)⟩),
  (126, ⟨(.struct [(0, 124)]), 1, 8, (.agg #[(.map none)])⟩),
  (127, ⟨(.struct [(0, 124)]), 1, 8, (.agg #[(.map none)])⟩),
  (128, ⟨.other, 1, 8, .nilFunc⟩),
  (129, ⟨.other, 1, 8, .nilFunc⟩),
  (130, ⟨(.struct [(0, 93), (1, 2)]), 2, 32, (.agg #[(.slice none 0 0), (.int .i64 0)])⟩),
  (131, ⟨(.struct [(0, 93), (1, 2)]), 2, 32, (.agg #[(.slice none 0 0), (.int .i64 0)])⟩),
  (132, ⟨(.slice 182), 1, 24, (.slice none 0 0)⟩),
  (133, ⟨.other, 1, 8, .nilFunc⟩),
  (134, ⟨(.map 2 4), 1, 8, (.map none)⟩),
  (135, ⟨(.struct [(0, 2), (1, 134), (2, 134)]), 3, 24, (.agg #[(.int .i64 0), (.map none), (.map none)])⟩),
  (136, ⟨(.struct [(0, 2), (1, 134), (2, 134)]), 3, 24, (.agg #[(.int .i64 0), (.map none), (.map none)])⟩),
  (137, ⟨.other, 1, 8, .nilFunc⟩),
  (138, ⟨.other, 1, 8, .nilFunc⟩),
  (139, ⟨.other, 1, 8, .nilFunc⟩),
  (140, ⟨.other, 1, 8, .nilFunc⟩),
  (141, ⟨.other, 1, 8, .nilFunc⟩),
  (142, ⟨.other, 1, 8, .nilFunc⟩),
  (143, ⟨.other, 1, 8, .nilFunc⟩),
  (144, ⟨(.slice 72), 1, 24, (.slice none 0 0)⟩),
  (145, ⟨(.struct [(0, 90), (3, 3)]), 4, 80, (.agg #[(.slice none 0 0), (.slice none 0 0), (.slice none 0 0), (.int .i64 0)])⟩),
  (146, ⟨(.struct [(0, 90), (3, 3)]), 4, 80, (.agg #[(.slice none 0 0), (.slice none 0 0), (.slice none 0 0), (.int .i64 0)])⟩),
  (147, ⟨.other, 1, 8, .nilFunc⟩),
  (148, ⟨.other, 1, 8, .nilFunc⟩),
  (149, ⟨.other, 1, 8, .nilFunc⟩),
  (151, ⟨.other, 1, 8, .nilFunc⟩),
  (152, ⟨.other, 1, 8, .nilFunc⟩),
  (153, ⟨.other, 1, 8, .nilFunc⟩),
  (154, ⟨.other, 1, 8, .nilFunc⟩),
  (155, ⟨.other, 1, 8, .nilFunc⟩),
  (156, ⟨.other, 1, 8, .nilFunc⟩),
  (157, ⟨.other, 1, 8, .nilFunc⟩),
  (158, ⟨.other, 1, 8, .nilFunc⟩),
  (159, ⟨(.slice 42), 1, 24, (.slice none 0 0)⟩),
  (160, ⟨.other, 1, 8, .nilFunc⟩),
  (161, ⟨(.ptr 95), 1, 8, (.pointer none)⟩),
  (162, ⟨.other, 1, 8, .nilFunc⟩),
  (163, ⟨.other, 1, 8, .nilFunc⟩),
  (164, ⟨.other, 1, 8, .nilFunc⟩),
  (165, ⟨(.ptr 92), 1, 8, (.pointer none)⟩),
  (166, ⟨.other, 1, 8, .nilFunc⟩),
  (167, ⟨.other, 1, 8, .nilFunc⟩),
  (168, ⟨.other, 1, 8, .nilFunc⟩),
  (169, ⟨.other, 1, 8, .nilFunc⟩),
  (170, ⟨(.ptr 89), 1, 8, (.pointer none)⟩),
  (171, ⟨.other, 1, 8, .nilFunc⟩),
  (173, ⟨.other, 1, 8, .nilFunc⟩),
  (174, ⟨.other, 1, 8, .nilFunc⟩),
  (175, ⟨.other, 1, 8, .nilFunc⟩),
  (176, ⟨.other, 1, 8, .nilFunc⟩),
  (177, ⟨.other, 1, 8, .nilFunc⟩),
  (178, ⟨.other, 1, 8, .nilFunc⟩),
  (179, ⟨.other, 1, 8, .nilFunc⟩),
  (180, ⟨.other, 1, 8, .nilFunc⟩),
  (181, ⟨(.struct [(0, 2), (1, 65)]), 9, 88, (.agg #[(.int .i64 0), (.int .i64 0), (.int .i64 0), (.string ⟨#[]⟩), (.int .i64 0), (.int .i64 0), (.int .u8 0), (.int .i64 0), (.string ⟨#[]⟩)])⟩),
  (182, ⟨(.struct [(0, 2), (1, 65)]), 9, 88, (.agg #[(.int .i64 0), (.int .i64 0), (.int .i64 0), (.string ⟨#[]⟩), (.int .i64 0), (.int .i64 0), (.int .u8 0), (.int .i64 0), (.string ⟨#[]⟩)])⟩),
  (183, ⟨(.struct [(0, 132)]), 1, 24, (.agg #[(.slice none 0 0)])⟩),
  (184, ⟨(.struct [(0, 132)]), 1, 24, (.agg #[(.slice none 0 0)])⟩),
  (185, ⟨.other, 1, 8, .nilFunc⟩),
  (186, ⟨.other, 1, 8, .nilFunc⟩),
  (187, ⟨.other, 1, 8, .nilFunc⟩),
  (188, ⟨.other, 1, 8, .nilFunc⟩),
  (189, ⟨.other, 1, 8, .nilFunc⟩),
  (190, ⟨.other, 1, 8, .nilFunc⟩),
  (192, ⟨.other, 1, 8, .nilFunc⟩),
  (193, ⟨.other, 1, 8, .nilFunc⟩),
  (194, ⟨.other, 1, 8, .nilFunc⟩),
  (195, ⟨.other, 1, 8, .nilFunc⟩),
  (196, ⟨.other, 1, 8, .nilFunc⟩),
  (197, ⟨.other, 1, 8, .nilFunc⟩),
  (198, ⟨.other, 1, 8, .nilFunc⟩),
  (199, ⟨.other, 1, 8, .nilFunc⟩),
  (200, ⟨.other, 1, 8, .nilFunc⟩),
  (201, ⟨.other, 1, 8, .nilFunc⟩),
  (202, ⟨.other, 1, 8, .nilFunc⟩),
  (203, ⟨.other, 1, 8, .nilFunc⟩),
  (204, ⟨(.ptr 98), 1, 8, (.pointer none)⟩),
  (205, ⟨(.struct [(0, 2), (1, 65)]), 9, 88, (.agg #[(.int .i64 0), (.int .i64 0), (.int .i64 0), (.string ⟨#[]⟩), (.int .i64 0), (.int .i64 0), (.int .u8 0), (.int .i64 0), (.string ⟨#[]⟩)])⟩),
  (206, ⟨.other, 1, 8, .nilFunc⟩),
  (207, ⟨.other, 1, 8, .nilFunc⟩),
  (208, ⟨.other, 1, 8, .nilFunc⟩),
  (209, ⟨.other, 1, 8, .nilFunc⟩),
  (210, ⟨.other, 1, 8, .nilFunc⟩),
  (211, ⟨(.int .u64), 1, 8, (.int .u64 0)⟩),
  (212, ⟨.other, 1, 8, .nilFunc⟩),
  (213, ⟨.other, 1, 8, .nilFunc⟩),
  (214, ⟨.other, 1, 8, .nilFunc⟩),
  (215, ⟨.other, 1, 8, .nilFunc⟩),
  (216, ⟨.other, 1, 8, .nilFunc⟩),
  (217, ⟨.other, 1, 8, .nilFunc⟩),
  (218, ⟨.other, 1, 8, .nilFunc⟩),
  (219, ⟨(.slice 3), 1, 24, (.slice none 0 0)⟩),
  (220, ⟨.other, 1, 8, .nilFunc⟩),
  (221, ⟨.other, 1, 8, .nilFunc⟩),
  (222, ⟨(.int .i64), 1, 8, (.int .i64 0)⟩),
  (224, ⟨.other, 1, 8, .nilFunc⟩),
  (225, ⟨.other, 1, 8, .nilFunc⟩),
  (226, ⟨.other, 1, 8, .nilFunc⟩),
  (227, ⟨.other, 1, 8, .nilFunc⟩),
  (229, ⟨.other, 1, 8, .nilFunc⟩),
  (230, ⟨.other, 1, 8, .nilFunc⟩),
  (231, ⟨(.int .u32), 1, 4, (.int .u32 0)⟩),
  (232, ⟨.other, 1, 8, .nilFunc⟩),
  (233, ⟨(.int .u64), 1, 8, (.int .u64 0)⟩),
  (234, ⟨.other, 1, 8, .nilFunc⟩),
  (235, ⟨.other, 1, 8, .nilFunc⟩),
  (236, ⟨.other, 1, 8, .nilFunc⟩),
  (237, ⟨.other, 1, 8, .nilFunc⟩),
  (238, ⟨.other, 1, 8, .nilFunc⟩),
  (239, ⟨.other, 1, 8, .nilFunc⟩),
  (240, ⟨.other, 1, 8, .nilFunc⟩),
  (241, ⟨.other, 1, 8, .nilFunc⟩),
  (242, ⟨.other, 1, 8, .nilFunc⟩),
  (243, ⟨.other, 1, 8, .nilFunc⟩),
  (244, ⟨.other, 1, 8, .nilFunc⟩),
  (245, ⟨.other, 1, 8, .nilFunc⟩),
  (246, ⟨.other, 1, 8, .nilFunc⟩),
  (247, ⟨.other, 1, 8, .nilFunc⟩),
  (248, ⟨(.int .u64), 1, 8, (.int .u64 0)⟩),
  (249, ⟨.other, 1, 8, .nilFunc⟩),
  (250, ⟨.other, 1, 8, .nilFunc⟩),
  (251, ⟨.other, 1, 8, .nilFunc⟩),
  (252, ⟨(.ptr 3), 1, 8, (.pointer none)⟩),
  (253, ⟨.other, 1, 8, .nilFunc⟩),
  (254, ⟨.other, 1, 8, .nilFunc⟩),
  (255, ⟨.other, 1, 8, .nilFunc⟩),
  (256, ⟨.other, 1, 8, .nilFunc⟩),
  (257, ⟨.other, 1, 8, .nilFunc⟩),
  (258, ⟨.other, 1, 8, .nilFunc⟩),
  (259, ⟨(.ptr 248), 1, 8, (.pointer none)⟩),
  (261, ⟨.other, 1, 8, .nilFunc⟩),
  (262, ⟨.other, 1, 8, .nilFunc⟩),
  (263, ⟨.other, 1, 8, .nilFunc⟩),
  (264, ⟨.other, 1, 8, .nilFunc⟩),
  (265, ⟨(.struct [(0, 17), (1, 17), (2, 17), (3, 9)]), 4, 40, (.agg #[(.pointer none), (.pointer none), (.pointer none), (.string ⟨#[]⟩)])⟩),
  (266, ⟨(.struct [(0, 17), (1, 17), (2, 17), (3, 9)]), 4, 40, (.agg #[(.pointer none), (.pointer none), (.pointer none), (.string ⟨#[]⟩)])⟩),
  (267, ⟨(.array 0 16), 0, 0, (.agg #[])⟩),
  (268, ⟨(.struct [(0, 267)]), 0, 0, (.agg #[])⟩),
  (269, ⟨(.struct [(0, 267)]), 0, 0, (.agg #[])⟩),
  (270, ⟨(.int .u8), 1, 1, (.int .u8 0)⟩),
  (271, ⟨(.int .u8), 1, 1, (.int .u8 0)⟩),
  (272, ⟨.other, 1, 8, .nilFunc⟩),
  (273, ⟨(.ptr 5), 1, 8, (.pointer none)⟩),
  (274, ⟨(.int .i32), 1, 4, (.int .i32 0)⟩),
  (275, ⟨(.int .i32), 1, 4, (.int .i32 0)⟩),
  (276, ⟨(.struct [(0, 12), (1, 12), (2, 231), (3, 270), (4, 5), (5, 5), (6, 271), (7, 272), (8, 273), (9, 274), (10, 275)]), 11, 48, (.agg #[(.int .u64 0), (.int .u64 0), (.int .u32 0), (.int .u8 0), (.int .u8 0), (.int .u8 0), (.int .u8 0), .nilFunc, (.pointer none), (.int .i32 0), (.int .i32 0)])⟩),
  (277, ⟨(.struct [(0, 12), (1, 12), (2, 231), (3, 270), (4, 5), (5, 5), (6, 271), (7, 272), (8, 273), (9, 274), (10, 275)]), 11, 48, (.agg #[(.int .u64 0), (.int .u64 0), (.int .u32 0), (.int .u8 0), (.int .u8 0), (.int .u8 0), (.int .u8 0), .nilFunc, (.pointer none), (.int .i32 0), (.int .i32 0)])⟩)]
theorem ty1 : TyI.ok Tryz.prog 1 ⟨.other, 1, 8, .nilFunc⟩ := ⟨⟨_, Tryz.underlying1, rfl⟩, by kernel_rfl⟩
theorem ty2 : TyI.ok Tryz.prog 2 ⟨(.int .i64), 1, 8, (.int .i64 0)⟩ := ⟨⟨_, Tryz.underlying2, rfl⟩, by kernel_rfl⟩
theorem ty3 : TyI.ok Tryz.prog 3 ⟨(.int .i64), 1, 8, (.int .i64 0)⟩ := ⟨⟨_, Tryz.underlying3, rfl⟩, by kernel_rfl⟩
theorem ty4 : TyI.ok Tryz.prog 4 ⟨.bool, 1, 1, (.bool false)⟩ := ⟨⟨_, Tryz.underlying4, rfl⟩, by kernel_rfl⟩
theorem ty5 : TyI.ok Tryz.prog 5 ⟨(.int .u8), 1, 1, (.int .u8 0)⟩ := ⟨⟨_, Tryz.underlying5, rfl⟩, by kernel_rfl⟩
theorem ty6 : TyI.ok Tryz.prog 6 ⟨(.int .u8), 1, 1, (.int .u8 0)⟩ := ⟨⟨_, Tryz.underlying6, rfl⟩, by kernel_rfl⟩
theorem ty7 : TyI.ok Tryz.prog 7 ⟨(.struct [(0, 2), (1, 3), (2, 4), (3, 6)]), 4, 24, (.agg #[(.int .i64 0), (.int .i64 0), (.bool false), (.int .u8 0)])⟩ := ⟨⟨_, Tryz.underlying7, _, rfl, rfl⟩, by kernel_rfl⟩
theorem ty8 : TyI.ok Tryz.prog 8 ⟨(.struct [(0, 2), (1, 3), (2, 4), (3, 6)]), 4, 24, (.agg #[(.int .i64 0), (.int .i64 0), (.bool false), (.int .u8 0)])⟩ := ⟨⟨_, Tryz.underlying8, _, rfl, rfl⟩, by kernel_rfl⟩
theorem ty9 : TyI.ok Tryz.prog 9 ⟨.str, 1, 16, (.string ⟨#[]⟩)⟩ := ⟨⟨_, Tryz.underlying9, rfl⟩, by kernel_rfl⟩
theorem ty10 : TyI.ok Tryz.prog 10 ⟨.str, 1, 16, (.string ⟨#[]⟩)⟩ := ⟨⟨_, Tryz.underlying10, rfl⟩, by kernel_rfl⟩
theorem ty11 : TyI.ok Tryz.prog 11 ⟨.str, 1, 16, (.string ⟨#[]⟩)⟩ := ⟨⟨_, Tryz.underlying11, rfl⟩, by kernel_rfl⟩
theorem ty12 : TyI.ok Tryz.prog 12 ⟨(.int .u64), 1, 8, (.int .u64 0)⟩ := ⟨⟨_, Tryz.underlying12, rfl⟩, by kernel_rfl⟩
theorem ty13 : TyI.ok Tryz.prog 13 ⟨(.struct [(0, 9), (1, 12)]), 2, 24, (.agg #[(.string ⟨#[]⟩), (.int .u64 0)])⟩ := ⟨⟨_, Tryz.underlying13, _, rfl, rfl⟩, by kernel_rfl⟩
theorem ty14 : TyI.ok Tryz.prog 14 ⟨(.struct [(0, 9), (1, 12)]), 2, 24, (.agg #[(.string ⟨#[]⟩), (.int .u64 0)])⟩ := ⟨⟨_, Tryz.underlying14, _, rfl, rfl⟩, by kernel_rfl⟩
theorem ty15 : TyI.ok Tryz.prog 15 ⟨(.ptr 266), 1, 8, (.pointer none)⟩ := ⟨⟨_, Tryz.underlying15, rfl⟩, by kernel_rfl⟩
theorem ty16 : TyI.ok Tryz.prog 16 ⟨(.ptr 269), 1, 8, (.pointer none)⟩ := ⟨⟨_, Tryz.underlying16, rfl⟩, by kernel_rfl⟩
theorem ty17 : TyI.ok Tryz.prog 17 ⟨(.ptr 277), 1, 8, (.pointer none)⟩ := ⟨⟨_, Tryz.underlying17, rfl⟩, by kernel_rfl⟩
theorem ty18 : TyI.ok Tryz.prog 18 ⟨(.struct [(0, 17)]), 1, 8, (.agg #[(.pointer none)])⟩ := ⟨⟨_, Tryz.underlying18, _, rfl, rfl⟩, by kernel_rfl⟩
theorem ty19 : TyI.ok Tryz.prog 19 ⟨(.struct [(0, 17)]), 1, 8, (.agg #[(.pointer none)])⟩ := ⟨⟨_, Tryz.underlying19, _, rfl, rfl⟩, by kernel_rfl⟩
theorem ty21 : TyI.ok Tryz.prog 21 ⟨(.int .i32), 1, 4, (.int .i32 0)⟩ := ⟨⟨_, Tryz.underlying21, rfl⟩, by kernel_rfl⟩
theorem ty22 : TyI.ok Tryz.prog 22 ⟨(.slice 28), 1, 24, (.slice none 0 0)⟩ := ⟨⟨_, Tryz.underlying22, rfl⟩, by kernel_rfl⟩
theorem ty23 : TyI.ok Tryz.prog 23 ⟨.other, 1, 8, .nilFunc⟩ := ⟨⟨_, Tryz.underlying23, rfl⟩, by kernel_rfl⟩
theorem ty24 : TyI.ok Tryz.prog 24 ⟨(.ptr 34), 1, 8, (.pointer none)⟩ := ⟨⟨_, Tryz.underlying24, rfl⟩, by kernel_rfl⟩
theorem ty25 : TyI.ok Tryz.prog 25 ⟨.other, 1, 8, .nilFunc⟩ := ⟨⟨_, Tryz.underlying25, rfl⟩, by kernel_rfl⟩
theorem ty26 : TyI.ok Tryz.prog 26 ⟨.other, 1, 8, .nilFunc⟩ := ⟨⟨_, Tryz.underlying26, rfl⟩, by kernel_rfl⟩
theorem ty27 : TyI.ok Tryz.prog 27 ⟨(.struct [(0, 5), (1, 5), (2, 5), (3, 2)]), 4, 16, (.agg #[(.int .u8 0), (.int .u8 0), (.int .u8 0), (.int .i64 0)])⟩ := ⟨⟨_, Tryz.underlying27, _, rfl, rfl⟩, by kernel_rfl⟩
theorem ty28 : TyI.ok Tryz.prog 28 ⟨(.struct [(0, 5), (1, 5), (2, 5), (3, 2)]), 4, 16, (.agg #[(.int .u8 0), (.int .u8 0), (.int .u8 0), (.int .i64 0)])⟩ := ⟨⟨_, Tryz.underlying28, _, rfl, rfl⟩, by kernel_rfl⟩
theorem ty29 : TyI.ok Tryz.prog 29 ⟨(.ptr 136), 1, 8, (.pointer none)⟩ := ⟨⟨_, Tryz.underlying29, rfl⟩, by kernel_rfl⟩
theorem ty30 : TyI.ok Tryz.prog 30 ⟨(.ptr 106), 1, 8, (.pointer none)⟩ := ⟨⟨_, Tryz.underlying30, rfl⟩, by kernel_rfl⟩
theorem ty31 : TyI.ok Tryz.prog 31 ⟨(.ptr 118), 1, 8, (.pointer none)⟩ := ⟨⟨_, Tryz.underlying31, rfl⟩, by kernel_rfl⟩
theorem ty32 : TyI.ok Tryz.prog 32 ⟨(.ptr 100), 1, 8, (.pointer none)⟩ := ⟨⟨_, Tryz.underlying32, rfl⟩, by kernel_rfl⟩
theorem ty33 : TyI.ok Tryz.prog 33 ⟨(.struct [(0, 29), (1, 30), (2, 31), (3, 32)]), 4, 32, (.agg #[(.pointer none), (.pointer none), (.pointer none), (.pointer none)])⟩ := ⟨⟨_, Tryz.underlying33, _, rfl, rfl⟩, by kernel_rfl⟩
theorem ty34 : TyI.ok Tryz.prog 34 ⟨(.struct [(0, 29), (1, 30), (2, 31), (3, 32)]), 4, 32, (.agg #[(.pointer none), (.pointer none), (.pointer none), (.pointer none)])⟩ := ⟨⟨_, Tryz.underlying34, _, rfl, rfl⟩, by kernel_rfl⟩
theorem ty35 : TyI.ok Tryz.prog 35 ⟨.other, 1, 8, .nilFunc⟩ := ⟨⟨_, Tryz.underlying35, rfl⟩, by kernel_rfl⟩
theorem ty36 : TyI.ok Tryz.prog 36 ⟨(.slice 50), 1, 24, (.slice none 0 0)⟩ := ⟨⟨_, Tryz.underlying36, rfl⟩, by kernel_rfl⟩
theorem ty37 : TyI.ok Tryz.prog 37 ⟨(.ptr 127), 1, 8, (.pointer none)⟩ := ⟨⟨_, Tryz.underlying37, rfl⟩, by kernel_rfl⟩
theorem ty38 : TyI.ok Tryz.prog 38 ⟨.other, 1, 8, .nilFunc⟩ := ⟨⟨_, Tryz.underlying38, rfl⟩, by kernel_rfl⟩
theorem ty39 : TyI.ok Tryz.prog 39 ⟨.other, 1, 8, .nilFunc⟩ := ⟨⟨_, Tryz.underlying39, rfl⟩, by kernel_rfl⟩
theorem ty40 : TyI.ok Tryz.prog 40 ⟨(.slice 2), 1, 24, (.slice none 0 0)⟩ := ⟨⟨_, Tryz.underlying40, rfl⟩, by kernel_rfl⟩
theorem ty41 : TyI.ok Tryz.prog 41 ⟨(.struct [(0, 2), (1, 40)]), 2, 32, (.agg #[(.int .i64 0), (.slice none 0 0)])⟩ := ⟨⟨_, Tryz.underlying41, _, rfl, rfl⟩, by kernel_rfl⟩
theorem ty42 : TyI.ok Tryz.prog 42 ⟨(.struct [(0, 2), (1, 40)]), 2, 32, (.agg #[(.int .i64 0), (.slice none 0 0)])⟩ := ⟨⟨_, Tryz.underlying42, _, rfl, rfl⟩, by kernel_rfl⟩
theorem ty43 : TyI.ok Tryz.prog 43 ⟨(.struct [(0, 2), (1, 42), (3, 2)]), 4, 48, (.agg #[(.int .i64 0), (.int .i64 0), (.slice none 0 0), (.int .i64 0)])⟩ := ⟨⟨_, Tryz.underlying43, _, rfl, rfl⟩, by kernel_rfl⟩
theorem ty44 : TyI.ok Tryz.prog 44 ⟨(.struct [(0, 2), (1, 42), (3, 2)]), 4, 48, (.agg #[(.int .i64 0), (.int .i64 0), (.slice none 0 0), (.int .i64 0)])⟩ := ⟨⟨_, Tryz.underlying44, _, rfl, rfl⟩, by kernel_rfl⟩
theorem ty46 : TyI.ok Tryz.prog 46 ⟨(.ptr 131), 1, 8, (.pointer none)⟩ := ⟨⟨_, Tryz.underlying46, rfl⟩, by kernel_rfl⟩
theorem ty47 : TyI.ok Tryz.prog 47 ⟨.other, 1, 8, .nilFunc⟩ := ⟨⟨_, Tryz.underlying47, rfl⟩, by kernel_rfl⟩
theorem ty48 : TyI.ok Tryz.prog 48 ⟨.other, 1, 8, .nilFunc⟩ := ⟨⟨_, Tryz.underlying48, rfl⟩, by kernel_rfl⟩
theorem ty49 : TyI.ok Tryz.prog 49 ⟨(.struct [(0, 9), (1, 2), (2, 2)]), 3, 32, (.agg #[(.string ⟨#[]⟩), (.int .i64 0), (.int .i64 0)])⟩ := ⟨⟨_, Tryz.underlying49, _, rfl, rfl⟩, by kernel_rfl⟩
theorem ty50 : TyI.ok Tryz.prog 50 ⟨(.struct [(0, 9), (1, 2), (2, 2)]), 3, 32, (.agg #[(.string ⟨#[]⟩), (.int .i64 0), (.int .i64 0)])⟩ := ⟨⟨_, Tryz.underlying50, _, rfl, rfl⟩, by kernel_rfl⟩
theorem ty51 : TyI.ok Tryz.prog 51 ⟨.other, 1, 8, .nilFunc⟩ := ⟨⟨_, Tryz.underlying51, rfl⟩, by kernel_rfl⟩
theorem ty52 : TyI.ok Tryz.prog 52 ⟨.other, 1, 8, .nilFunc⟩ := ⟨⟨_, Tryz.underlying52, rfl⟩, by kernel_rfl⟩
theorem ty53 : TyI.ok Tryz.prog 53 ⟨.other, 1, 8, .nilFunc⟩ := ⟨⟨_, Tryz.underlying53, rfl⟩, by kernel_rfl⟩
theorem ty54 : TyI.ok Tryz.prog 54 ⟨.other, 1, 8, .nilFunc⟩ := ⟨⟨_, Tryz.underlying54, rfl⟩, by kernel_rfl⟩
theorem ty55 : TyI.ok Tryz.prog 55 ⟨(.int .i64), 1, 8, (.int .i64 0)⟩ := ⟨⟨_, Tryz.underlying55, rfl⟩, by kernel_rfl⟩
theorem ty57 : TyI.ok Tryz.prog 57 ⟨.other, 1, 8, .nilFunc⟩ := ⟨⟨_, Tryz.underlying57, rfl⟩, by kernel_rfl⟩
theorem ty58 : TyI.ok Tryz.prog 58 ⟨.other, 1, 8, .nilFunc⟩ := ⟨⟨_, Tryz.underlying58, rfl⟩, by kernel_rfl⟩
theorem ty60 : TyI.ok Tryz.prog 60 ⟨.other, 1, 8, .nilFunc⟩ := ⟨⟨_, Tryz.underlying60, rfl⟩, by kernel_rfl⟩
theorem ty61 : TyI.ok Tryz.prog 61 ⟨.other, 1, 8, .nilFunc⟩ := ⟨⟨_, Tryz.underlying61, rfl⟩, by kernel_rfl⟩
theorem ty62 : TyI.ok Tryz.prog 62 ⟨(.struct [(0, 2), (1, 9)]), 2, 24, (.agg #[(.int .i64 0), (.string ⟨#[]⟩)])⟩ := ⟨⟨_, Tryz.underlying62, _, rfl, rfl⟩, by kernel_rfl⟩
theorem ty63 : TyI.ok Tryz.prog 63 ⟨(.struct [(0, 2), (1, 9)]), 2, 24, (.agg #[(.int .i64 0), (.string ⟨#[]⟩)])⟩ := ⟨⟨_, Tryz.underlying63, _, rfl, rfl⟩, by kernel_rfl⟩
theorem ty64 : TyI.ok Tryz.prog 64 ⟨(.struct [(0, 2), (1, 2), (2, 9), (3, 3), (4, 3), (5, 5), (6, 63)]), 8, 80, (.agg #[(.int .i64 0), (.int .i64 0), (.string ⟨#[]⟩), (.int .i64 0), (.int .i64 0), (.int .u8 0), (.int .i64 0), (.string ⟨#[]⟩)])⟩ := ⟨⟨_, Tryz.underlying64, _, rfl, rfl⟩, by kernel_rfl⟩
theorem ty65 : TyI.ok Tryz.prog 65 ⟨(.struct [(0, 2), (1, 2), (2, 9), (3, 3), (4, 3), (5, 5), (6, 63)]), 8, 80, (.agg #[(.int .i64 0), (.int .i64 0), (.string ⟨#[]⟩), (.int .i64 0), (.int .i64 0), (.int .u8 0), (.int .i64 0), (.string ⟨#[]⟩)])⟩ := ⟨⟨_, Tryz.underlying65, _, rfl, rfl⟩, by kernel_rfl⟩
theorem ty66 : TyI.ok Tryz.prog 66 ⟨.other, 1, 8, .nilFunc⟩ := ⟨⟨_, Tryz.underlying66, rfl⟩, by kernel_rfl⟩
theorem ty67 : TyI.ok Tryz.prog 67 ⟨.other, 1, 8, .nilFunc⟩ := ⟨⟨_, Tryz.underlying67, rfl⟩, by kernel_rfl⟩
theorem ty68 : TyI.ok Tryz.prog 68 ⟨.other, 1, 8, .nilFunc⟩ := ⟨⟨_, Tryz.underlying68, rfl⟩, by kernel_rfl⟩
theorem ty70 : TyI.ok Tryz.prog 70 ⟨.other, 1, 8, .nilFunc⟩ := ⟨⟨_, Tryz.underlying70, rfl⟩, by kernel_rfl⟩
theorem ty71 : TyI.ok Tryz.prog 71 ⟨.other, 1, 8, .nilFunc⟩ := ⟨⟨_, Tryz.underlying71, rfl⟩, by kernel_rfl⟩
theorem ty72 : TyI.ok Tryz.prog 72 ⟨(.slice 65), 1, 24, (.slice none 0 0)⟩ := ⟨⟨_, Tryz.underlying72, rfl⟩, by kernel_rfl⟩
theorem ty73 : TyI.ok Tryz.prog 73 ⟨(.ptr 146), 1, 8, (.pointer none)⟩ := ⟨⟨_, Tryz.underlying73, rfl⟩, by kernel_rfl⟩
theorem ty74 : TyI.ok Tryz.prog 74 ⟨.other, 1, 8, .nilFunc⟩ := ⟨⟨_, Tryz.underlying74, rfl⟩, by kernel_rfl⟩
theorem ty75 : TyI.ok Tryz.prog 75 ⟨.other, 1, 8, .nilFunc⟩ := ⟨⟨_, Tryz.underlying75, rfl⟩, by kernel_rfl⟩
theorem ty76 : TyI.ok Tryz.prog 76 ⟨.other, 1, 8, .nilFunc⟩ := ⟨⟨_, Tryz.underlying76, rfl⟩, by kernel_rfl⟩
theorem ty78 : TyI.ok Tryz.prog 78 ⟨.other, 1, 8, .nilFunc⟩ := ⟨⟨_, Tryz.underlying78, rfl⟩, by kernel_rfl⟩
theorem ty79 : TyI.ok Tryz.prog 79 ⟨.other, 1, 8, .nilFunc⟩ := ⟨⟨_, Tryz.underlying79, rfl⟩, by kernel_rfl⟩
theorem ty80 : TyI.ok Tryz.prog 80 ⟨.other, 1, 8, .nilFunc⟩ := ⟨⟨_, Tryz.underlying80, rfl⟩, by kernel_rfl⟩
theorem ty81 : TyI.ok Tryz.prog 81 ⟨.other, 1, 8, .nilFunc⟩ := ⟨⟨_, Tryz.underlying81, rfl⟩, by kernel_rfl⟩
theorem ty82 : TyI.ok Tryz.prog 82 ⟨.other, 1, 8, .nilFunc⟩ := ⟨⟨_, Tryz.underlying82, rfl⟩, by kernel_rfl⟩
theorem ty83 : TyI.ok Tryz.prog 83 ⟨.other, 1, 8, .nilFunc⟩ := ⟨⟨_, Tryz.underlying83, rfl⟩, by kernel_rfl⟩
theorem ty84 : TyI.ok Tryz.prog 84 ⟨(.ptr 184), 1, 8, (.pointer none)⟩ := ⟨⟨_, Tryz.underlying84, rfl⟩, by kernel_rfl⟩
theorem ty85 : TyI.ok Tryz.prog 85 ⟨.other, 1, 8, .nilFunc⟩ := ⟨⟨_, Tryz.underlying85, rfl⟩, by kernel_rfl⟩
theorem ty86 : TyI.ok Tryz.prog 86 ⟨.other, 1, 8, .nilFunc⟩ := ⟨⟨_, Tryz.underlying86, rfl⟩, by kernel_rfl⟩
theorem ty87 : TyI.ok Tryz.prog 87 ⟨(.slice 101), 1, 24, (.slice none 0 0)⟩ := ⟨⟨_, Tryz.underlying87, rfl⟩, by kernel_rfl⟩
theorem ty88 : TyI.ok Tryz.prog 88 ⟨(.struct [(0, 87)]), 1, 24, (.agg #[(.slice none 0 0)])⟩ := ⟨⟨_, Tryz.underlying88, _, rfl, rfl⟩, by kernel_rfl⟩
theorem ty89 : TyI.ok Tryz.prog 89 ⟨(.struct [(0, 87)]), 1, 24, (.agg #[(.slice none 0 0)])⟩ := ⟨⟨_, Tryz.underlying89, _, rfl, rfl⟩, by kernel_rfl⟩
theorem ty90 : TyI.ok Tryz.prog 90 ⟨(.array 3 72), 3, 72, (.agg #[(.slice none 0 0), (.slice none 0 0), (.slice none 0 0)])⟩ := ⟨⟨_, Tryz.underlying90, rfl⟩, by kernel_rfl⟩
theorem ty91 : TyI.ok Tryz.prog 91 ⟨(.struct [(0, 90), (3, 3)]), 4, 80, (.agg #[(.slice none 0 0), (.slice none 0 0), (.slice none 0 0), (.int .i64 0)])⟩ := ⟨⟨_, Tryz.underlying91, _, rfl, rfl⟩, by kernel_rfl⟩
theorem ty92 : TyI.ok Tryz.prog 92 ⟨(.struct [(0, 90), (3, 3)]), 4, 80, (.agg #[(.slice none 0 0), (.slice none 0 0), (.slice none 0 0), (.int .i64 0)])⟩ := ⟨⟨_, Tryz.underlying92, _, rfl, rfl⟩, by kernel_rfl⟩
theorem ty93 : TyI.ok Tryz.prog 93 ⟨(.slice 44), 1, 24, (.slice none 0 0)⟩ := ⟨⟨_, Tryz.underlying93, rfl⟩, by kernel_rfl⟩
theorem ty94 : TyI.ok Tryz.prog 94 ⟨(.struct [(0, 93), (1, 2)]), 2, 32, (.agg #[(.slice none 0 0), (.int .i64 0)])⟩ := ⟨⟨_, Tryz.underlying94, _, rfl, rfl⟩, by kernel_rfl⟩
theorem ty95 : TyI.ok Tryz.prog 95 ⟨(.struct [(0, 93), (1, 2)]), 2, 32, (.agg #[(.slice none 0 0), (.int .i64 0)])⟩ := ⟨⟨_, Tryz.underlying95, _, rfl, rfl⟩, by kernel_rfl⟩
theorem ty96 : TyI.ok Tryz.prog 96 ⟨(.slice 205), 1, 24, (.slice none 0 0)⟩ := ⟨⟨_, Tryz.underlying96, rfl⟩, by kernel_rfl⟩
theorem ty97 : TyI.ok Tryz.prog 97 ⟨(.struct [(0, 96)]), 1, 24, (.agg #[(.slice none 0 0)])⟩ := ⟨⟨_, Tryz.underlying97, _, rfl, rfl⟩, by kernel_rfl⟩
theorem ty98 : TyI.ok Tryz.prog 98 ⟨(.struct [(0, 96)]), 1, 24, (.agg #[(.slice none 0 0)])⟩ := ⟨⟨_, Tryz.underlying98, _, rfl, rfl⟩, by kernel_rfl⟩
theorem ty99 : TyI.ok Tryz.prog 99 ⟨(.struct [(0, 30), (1, 92), (5, 95), (7, 89), (8, 98), (9, 2)]), 10, 176, (.agg #[(.pointer none), (.slice none 0 0), (.slice none 0 0), (.slice none 0 0), (.int .i64 0), (.slice none 0 0), (.int .i64 0), (.slice none 0 0), (.slice none 0 0), (.int .i64 0)])⟩ := ⟨⟨_, Tryz.underlying99, _, rfl, rfl⟩, by kernel_rfl⟩
theorem ty100 : TyI.ok Tryz.prog 100 ⟨(.struct [(0, 30), (1, 92), (5, 95), (7, 89), (8, 98), (9, 2)]), 10, 176, (.agg #[(.pointer none), (.slice none 0 0), (.slice none 0 0), (.slice none 0 0), (.int .i64 0), (.slice none 0 0), (.int .i64 0), (.slice none 0 0), (.slice none 0 0), (.int .i64 0)])⟩ := ⟨⟨_, Tryz.underlying100, _, rfl, rfl⟩, by kernel_rfl⟩
theorem ty101 : TyI.ok Tryz.prog 101 ⟨(.struct [(0, 9), (1, 2), (2, 2)]), 3, 32, (.agg #[(.string ⟨#[]⟩), (.int .i64 0), (.int .i64 0)])⟩ := ⟨⟨_, Tryz.underlying101, _, rfl, rfl⟩, by kernel_rfl⟩
theorem ty102 : TyI.ok Tryz.prog 102 ⟨.other, 1, 8, .nilFunc⟩ := ⟨⟨_, Tryz.underlying102, rfl⟩, by kernel_rfl⟩
theorem ty103 : TyI.ok Tryz.prog 103 ⟨.other, 1, 8, .nilFunc⟩ := ⟨⟨_, Tryz.underlying103, rfl⟩, by kernel_rfl⟩
theorem ty104 : TyI.ok Tryz.prog 104 ⟨(.slice 5), 1, 24, (.slice none 0 0)⟩ := ⟨⟨_, Tryz.underlying104, rfl⟩, by kernel_rfl⟩
theorem ty105 : TyI.ok Tryz.prog 105 ⟨(.struct [(0, 104)]), 1, 24, (.agg #[(.slice none 0 0)])⟩ := ⟨⟨_, Tryz.underlying105, _, rfl, rfl⟩, by kernel_rfl⟩
theorem ty106 : TyI.ok Tryz.prog 106 ⟨(.struct [(0, 104)]), 1, 24, (.agg #[(.slice none 0 0)])⟩ := ⟨⟨_, Tryz.underlying106, _, rfl, rfl⟩, by kernel_rfl⟩
theorem ty107 : TyI.ok Tryz.prog 107 ⟨.other, 1, 8, .nilFunc⟩ := ⟨⟨_, Tryz.underlying107, rfl⟩, by kernel_rfl⟩
theorem ty108 : TyI.ok Tryz.prog 108 ⟨.other, 1, 8, .nilFunc⟩ := ⟨⟨_, Tryz.underlying108, rfl⟩, by kernel_rfl⟩
theorem ty109 : TyI.ok Tryz.prog 109 ⟨.other, 1, 8, .nilFunc⟩ := ⟨⟨_, Tryz.underlying109, rfl⟩, by kernel_rfl⟩
theorem ty110 : TyI.ok Tryz.prog 110 ⟨.other, 1, 8, .nilFunc⟩ := ⟨⟨_, Tryz.underlying110, rfl⟩, by kernel_rfl⟩
theorem ty111 : TyI.ok Tryz.prog 111 ⟨.other, 1, 8, .nilFunc⟩ := ⟨⟨_, Tryz.underlying111, rfl⟩, by kernel_rfl⟩
theorem ty112 : TyI.ok Tryz.prog 112 ⟨.other, 1, 8, .nilFunc⟩ := ⟨⟨_, Tryz.underlying112, rfl⟩, by kernel_rfl⟩
theorem ty113 : TyI.ok Tryz.prog 113 ⟨.other, 1, 8, .nilFunc⟩ := ⟨⟨_, Tryz.underlying113, rfl⟩, by kernel_rfl⟩
theorem ty114 : TyI.ok Tryz.prog 114 ⟨.other, 1, 8, .nilFunc⟩ := ⟨⟨_, Tryz.underlying114, rfl⟩, by kernel_rfl⟩
theorem ty116 : TyI.ok Tryz.prog 116 ⟨.other, 1, 8, .nilFunc⟩ := ⟨⟨_, Tryz.underlying116, rfl⟩, by kernel_rfl⟩
theorem ty117 : TyI.ok Tryz.prog 117 ⟨(.struct [(0, 29), (1, 73), (2, 46), (3, 37), (4, 84), (5, 2)]), 6, 48, (.agg #[(.pointer none), (.pointer none), (.pointer none), (.pointer none), (.pointer none), (.int .i64 0)])⟩ := ⟨⟨_, Tryz.underlying117, _, rfl, rfl⟩, by kernel_rfl⟩
theorem ty118 : TyI.ok Tryz.prog 118 ⟨(.struct [(0, 29), (1, 73), (2, 46), (3, 37), (4, 84), (5, 2)]), 6, 48, (.agg #[(.pointer none), (.pointer none), (.pointer none), (.pointer none), (.pointer none), (.int .i64 0)])⟩ := ⟨⟨_, Tryz.underlying118, _, rfl, rfl⟩, by kernel_rfl⟩
theorem ty119 : TyI.ok Tryz.prog 119 ⟨(.slice 9), 1, 24, (.slice none 0 0)⟩ := ⟨⟨_, Tryz.underlying119, rfl⟩, by kernel_rfl⟩
theorem ty120 : TyI.ok Tryz.prog 120 ⟨.other, 1, 8, .nilFunc⟩ := ⟨⟨_, Tryz.underlying120, rfl⟩, by kernel_rfl⟩
theorem ty121 : TyI.ok Tryz.prog 121 ⟨.other, 1, 8, .nilFunc⟩ := ⟨⟨_, Tryz.underlying121, rfl⟩, by kernel_rfl⟩
theorem ty122 : TyI.ok Tryz.prog 122 ⟨.other, 1, 8, .nilFunc⟩ := ⟨⟨_, Tryz.underlying122, rfl⟩, by kernel_rfl⟩
theorem ty123 : TyI.ok Tryz.prog 123 ⟨.other, 1, 8, .nilFunc⟩ := ⟨⟨_, Tryz.underlying123, rfl⟩, by kernel_rfl⟩
theorem ty124 : TyI.ok Tryz.prog 124 ⟨(.map 9 125), 1, 8, (.map none)⟩ := ⟨⟨_, Tryz.underlying124, rfl⟩, by kernel_rfl⟩
theorem ty125 : TyI.ok Tryz.prog 125 ⟨(.ptr 50), 1, 8, (.pointer none)⟩ := ⟨⟨_, Tryz.underlying125, rfl⟩, by kernel_rfl⟩
theorem ty126 : TyI.ok Tryz.prog 126 ⟨(.struct [(0, 124)]), 1, 8, (.agg #[(.map none)])⟩ := ⟨⟨_, Tryz.underlying126, _, rfl, rfl⟩, by kernel_rfl⟩
theorem ty127 : TyI.ok Tryz.prog 127 ⟨(.struct [(0, 124)]), 1, 8, (.agg #[(.map none)])⟩ := ⟨⟨_, Tryz.underlying127, _, rfl, rfl⟩, by kernel_rfl⟩
theorem ty128 : TyI.ok Tryz.prog 128 ⟨.other, 1, 8, .nilFunc⟩ := ⟨⟨_, Tryz.underlying128, rfl⟩, by kernel_rfl⟩
theorem ty129 : TyI.ok Tryz.prog 129 ⟨.other, 1, 8, .nilFunc⟩ := ⟨⟨_, Tryz.underlying129, rfl⟩, by kernel_rfl⟩
theorem ty130 : TyI.ok Tryz.prog 130 ⟨(.struct [(0, 93), (1, 2)]), 2, 32, (.agg #[(.slice none 0 0), (.int .i64 0)])⟩ := ⟨⟨_, Tryz.underlying130, _, rfl, rfl⟩, by kernel_rfl⟩
theorem ty131 : TyI.ok Tryz.prog 131 ⟨(.struct [(0, 93), (1, 2)]), 2, 32, (.agg #[(.slice none 0 0), (.int .i64 0)])⟩ := ⟨⟨_, Tryz.underlying131, _, rfl, rfl⟩, by kernel_rfl⟩
theorem ty132 : TyI.ok Tryz.prog 132 ⟨(.slice 182), 1, 24, (.slice none 0 0)⟩ := ⟨⟨_, Tryz.underlying132, rfl⟩, by kernel_rfl⟩
theorem ty133 : TyI.ok Tryz.prog 133 ⟨.other, 1, 8, .nilFunc⟩ := ⟨⟨_, Tryz.underlying133, rfl⟩, by kernel_rfl⟩
theorem ty134 : TyI.ok Tryz.prog 134 ⟨(.map 2 4), 1, 8, (.map none)⟩ := ⟨⟨_, Tryz.underlying134, rfl⟩, by kernel_rfl⟩
theorem ty135 : TyI.ok Tryz.prog 135 ⟨(.struct [(0, 2), (1, 134), (2, 134)]), 3, 24, (.agg #[(.int .i64 0), (.map none), (.map none)])⟩ := ⟨⟨_, Tryz.underlying135, _, rfl, rfl⟩, by kernel_rfl⟩
theorem ty136 : TyI.ok Tryz.prog 136 ⟨(.struct [(0, 2), (1, 134), (2, 134)]), 3, 24, (.agg #[(.int .i64 0), (.map none), (.map none)])⟩ := ⟨⟨_, Tryz.underlying136, _, rfl, rfl⟩, by kernel_rfl⟩
theorem ty137 : TyI.ok Tryz.prog 137 ⟨.other, 1, 8, .nilFunc⟩ := ⟨⟨_, Tryz.underlying137, rfl⟩, by kernel_rfl⟩
theorem ty138 : TyI.ok Tryz.prog 138 ⟨.other, 1, 8, .nilFunc⟩ := ⟨⟨_, Tryz.underlying138, rfl⟩, by kernel_rfl⟩
theorem ty139 : TyI.ok Tryz.prog 139 ⟨.other, 1, 8, .nilFunc⟩ := ⟨⟨_, Tryz.underlying139, rfl⟩, by kernel_rfl⟩
theorem ty140 : TyI.ok Tryz.prog 140 ⟨.other, 1, 8, .nilFunc⟩ := ⟨⟨_, Tryz.underlying140, rfl⟩, by kernel_rfl⟩
theorem ty141 : TyI.ok Tryz.prog 141 ⟨.other, 1, 8, .nilFunc⟩ := ⟨⟨_, Tryz.underlying141, rfl⟩, by kernel_rfl⟩
theorem ty142 : TyI.ok Tryz.prog 142 ⟨.other, 1, 8, .nilFunc⟩ := ⟨⟨_, Tryz.underlying142, rfl⟩, by kernel_rfl⟩
theorem ty143 : TyI.ok Tryz.prog 143 ⟨.other, 1, 8, .nilFunc⟩ := ⟨⟨_, Tryz.underlying143, rfl⟩, by kernel_rfl⟩
theorem ty144 : TyI.ok Tryz.prog 144 ⟨(.slice 72), 1, 24, (.slice none 0 0)⟩ := ⟨⟨_, Tryz.underlying144, rfl⟩, by kernel_rfl⟩
theorem ty145 : TyI.ok Tryz.prog 145 ⟨(.struct [(0, 90), (3, 3)]), 4, 80, (.agg #[(.slice none 0 0), (.slice none 0 0), (.slice none 0 0), (.int .i64 0)])⟩ := ⟨⟨_, Tryz.underlying145, _, rfl, rfl⟩, by kernel_rfl⟩
theorem ty146 : TyI.ok Tryz.prog 146 ⟨(.struct [(0, 90), (3, 3)]), 4, 80, (.agg #[(.slice none 0 0), (.slice none 0 0), (.slice none 0 0), (.int .i64 0)])⟩ := ⟨⟨_, Tryz.underlying146, _, rfl, rfl⟩, by kernel_rfl⟩
theorem ty147 : TyI.ok Tryz.prog 147 ⟨.other, 1, 8, .nilFunc⟩ := ⟨⟨_, Tryz.underlying147, rfl⟩, by kernel_rfl⟩
theorem ty148 : TyI.ok Tryz.prog 148 ⟨.other, 1, 8, .nilFunc⟩ := ⟨⟨_, Tryz.underlying148, rfl⟩, by kernel_rfl⟩
theorem ty149 : TyI.ok Tryz.prog 149 ⟨.other, 1, 8, .nilFunc⟩ := ⟨⟨_, Tryz.underlying149, rfl⟩, by kernel_rfl⟩
theorem ty151 : TyI.ok Tryz.prog 151 ⟨.other, 1, 8, .nilFunc⟩ := ⟨⟨_, Tryz.underlying151, rfl⟩, by kernel_rfl⟩
theorem ty152 : TyI.ok Tryz.prog 152 ⟨.other, 1, 8, .nilFunc⟩ := ⟨⟨_, Tryz.underlying152, rfl⟩, by kernel_rfl⟩
theorem ty153 : TyI.ok Tryz.prog 153 ⟨.other, 1, 8, .nilFunc⟩ := ⟨⟨_, Tryz.underlying153, rfl⟩, by kernel_rfl⟩
theorem ty154 : TyI.ok Tryz.prog 154 ⟨.other, 1, 8, .nilFunc⟩ := ⟨⟨_, Tryz.underlying154, rfl⟩, by kernel_rfl⟩
theorem ty155 : TyI.ok Tryz.prog 155 ⟨.other, 1, 8, .nilFunc⟩ := ⟨⟨_, Tryz.underlying155, rfl⟩, by kernel_rfl⟩
theorem ty156 : TyI.ok Tryz.prog 156 ⟨.other, 1, 8, .nilFunc⟩ := ⟨⟨_, Tryz.underlying156, rfl⟩, by kernel_rfl⟩
theorem ty157 : TyI.ok Tryz.prog 157 ⟨.other, 1, 8, .nilFunc⟩ := ⟨⟨_, Tryz.underlying157, rfl⟩, by kernel_rfl⟩
theorem ty158 : TyI.ok Tryz.prog 158 ⟨.other, 1, 8, .nilFunc⟩ := ⟨⟨_, Tryz.underlying158, rfl⟩, by kernel_rfl⟩
theorem ty159 : TyI.ok Tryz.prog 159 ⟨(.slice 42), 1, 24, (.slice none 0 0)⟩ := ⟨⟨_, Tryz.underlying159, rfl⟩, by kernel_rfl⟩
theorem ty160 : TyI.ok Tryz.prog 160 ⟨.other, 1, 8, .nilFunc⟩ := ⟨⟨_, Tryz.underlying160, rfl⟩, by kernel_rfl⟩
theorem ty161 : TyI.ok Tryz.prog 161 ⟨(.ptr 95), 1, 8, (.pointer none)⟩ := ⟨⟨_, Tryz.underlying161, rfl⟩, by kernel_rfl⟩
theorem ty162 : TyI.ok Tryz.prog 162 ⟨.other, 1, 8, .nilFunc⟩ := ⟨⟨_, Tryz.underlying162, rfl⟩, by kernel_rfl⟩
theorem ty163 : TyI.ok Tryz.prog 163 ⟨.other, 1, 8, .nilFunc⟩ := ⟨⟨_, Tryz.underlying163, rfl⟩, by kernel_rfl⟩
theorem ty164 : TyI.ok Tryz.prog 164 ⟨.other, 1, 8, .nilFunc⟩ := ⟨⟨_, Tryz.underlying164, rfl⟩, by kernel_rfl⟩
theorem ty165 : TyI.ok Tryz.prog 165 ⟨(.ptr 92), 1, 8, (.pointer none)⟩ := ⟨⟨_, Tryz.underlying165, rfl⟩, by kernel_rfl⟩
theorem ty166 : TyI.ok Tryz.prog 166 ⟨.other, 1, 8, .nilFunc⟩ := ⟨⟨_, Tryz.underlying166, rfl⟩, by kernel_rfl⟩
theorem ty167 : TyI.ok Tryz.prog 167 ⟨.other, 1, 8, .nilFunc⟩ := ⟨⟨_, Tryz.underlying167, rfl⟩, by kernel_rfl⟩
theorem ty168 : TyI.ok Tryz.prog 168 ⟨.other, 1, 8, .nilFunc⟩ := ⟨⟨_, Tryz.underlying168, rfl⟩, by kernel_rfl⟩
theorem ty169 : TyI.ok Tryz.prog 169 ⟨.other, 1, 8, .nilFunc⟩ := ⟨⟨_, Tryz.underlying169, rfl⟩, by kernel_rfl⟩
theorem ty170 : TyI.ok Tryz.prog 170 ⟨(.ptr 89), 1, 8, (.pointer none)⟩ := ⟨⟨_, Tryz.underlying170, rfl⟩, by kernel_rfl⟩
theorem ty171 : TyI.ok Tryz.prog 171 ⟨.other, 1, 8, .nilFunc⟩ := ⟨⟨_, Tryz.underlying171, rfl⟩, by kernel_rfl⟩
theorem ty173 : TyI.ok Tryz.prog 173 ⟨.other, 1, 8, .nilFunc⟩ := ⟨⟨_, Tryz.underlying173, rfl⟩, by kernel_rfl⟩
theorem ty174 : TyI.ok Tryz.prog 174 ⟨.other, 1, 8, .nilFunc⟩ := ⟨⟨_, Tryz.underlying174, rfl⟩, by kernel_rfl⟩
theorem ty175 : TyI.ok Tryz.prog 175 ⟨.other, 1, 8, .nilFunc⟩ := ⟨⟨_, Tryz.underlying175, rfl⟩, by kernel_rfl⟩
theorem ty176 : TyI.ok Tryz.prog 176 ⟨.other, 1, 8, .nilFunc⟩ := ⟨⟨_, Tryz.underlying176, rfl⟩, by kernel_rfl⟩
theorem ty177 : TyI.ok Tryz.prog 177 ⟨.other, 1, 8, .nilFunc⟩ := ⟨⟨_, Tryz.underlying177, rfl⟩, by kernel_rfl⟩
theorem ty178 : TyI.ok Tryz.prog 178 ⟨.other, 1, 8, .nilFunc⟩ := ⟨⟨_, Tryz.underlying178, rfl⟩, by kernel_rfl⟩
theorem ty179 : TyI.ok Tryz.prog 179 ⟨.other, 1, 8, .nilFunc⟩ := ⟨⟨_, Tryz.underlying179, rfl⟩, by kernel_rfl⟩
theorem ty180 : TyI.ok Tryz.prog 180 ⟨.other, 1, 8, .nilFunc⟩ := ⟨⟨_, Tryz.underlying180, rfl⟩, by kernel_rfl⟩
theorem ty181 : TyI.ok Tryz.prog 181 ⟨(.struct [(0, 2), (1, 65)]), 9, 88, (.agg #[(.int .i64 0), (.int .i64 0), (.int .i64 0), (.string ⟨#[]⟩), (.int .i64 0), (.int .i64 0), (.int .u8 0), (.int .i64 0), (.string ⟨#[]⟩)])⟩ := ⟨⟨_, Tryz.underlying181, _, rfl, rfl⟩, by kernel_rfl⟩
theorem ty182 : TyI.ok Tryz.prog 182 ⟨(.struct [(0, 2), (1, 65)]), 9, 88, (.agg #[(.int .i64 0), (.int .i64 0), (.int .i64 0), (.string ⟨#[]⟩), (.int .i64 0), (.int .i64 0), (.int .u8 0), (.int .i64 0), (.string ⟨#[]⟩)])⟩ := ⟨⟨_, Tryz.underlying182, _, rfl, rfl⟩, by kernel_rfl⟩
theorem ty183 : TyI.ok Tryz.prog 183 ⟨(.struct [(0, 132)]), 1, 24, (.agg #[(.slice none 0 0)])⟩ := ⟨⟨_, Tryz.underlying183, _, rfl, rfl⟩, by kernel_rfl⟩
theorem ty184 : TyI.ok Tryz.prog 184 ⟨(.struct [(0, 132)]), 1, 24, (.agg #[(.slice none 0 0)])⟩ := ⟨⟨_, Tryz.underlying184, _, rfl, rfl⟩, by kernel_rfl⟩
theorem ty185 : TyI.ok Tryz.prog 185 ⟨.other, 1, 8, .nilFunc⟩ := ⟨⟨_, Tryz.underlying185, rfl⟩, by kernel_rfl⟩
theorem ty186 : TyI.ok Tryz.prog 186 ⟨.other, 1, 8, .nilFunc⟩ := ⟨⟨_, Tryz.underlying186, rfl⟩, by kernel_rfl⟩
theorem ty187 : TyI.ok Tryz.prog 187 ⟨.other, 1, 8, .nilFunc⟩ := ⟨⟨_, Tryz.underlying187, rfl⟩, by kernel_rfl⟩
theorem ty188 : TyI.ok Tryz.prog 188 ⟨.other, 1, 8, .nilFunc⟩ := ⟨⟨_, Tryz.underlying188, rfl⟩, by kernel_rfl⟩
theorem ty189 : TyI.ok Tryz.prog 189 ⟨.other, 1, 8, .nilFunc⟩ := ⟨⟨_, Tryz.underlying189, rfl⟩, by kernel_rfl⟩
theorem ty190 : TyI.ok Tryz.prog 190 ⟨.other, 1, 8, .nilFunc⟩ := ⟨⟨_, Tryz.underlying190, rfl⟩, by kernel_rfl⟩
theorem ty192 : TyI.ok Tryz.prog 192 ⟨.other, 1, 8, .nilFunc⟩ := ⟨⟨_, Tryz.underlying192, rfl⟩, by kernel_rfl⟩
theorem ty193 : TyI.ok Tryz.prog 193 ⟨.other, 1, 8, .nilFunc⟩ := ⟨⟨_, Tryz.underlying193, rfl⟩, by kernel_rfl⟩
theorem ty194 : TyI.ok Tryz.prog 194 ⟨.other, 1, 8, .nilFunc⟩ := ⟨⟨_, Tryz.underlying194, rfl⟩, by kernel_rfl⟩
theorem ty195 : TyI.ok Tryz.prog 195 ⟨.other, 1, 8, .nilFunc⟩ := ⟨⟨_, Tryz.underlying195, rfl⟩, by kernel_rfl⟩
theorem ty196 : TyI.ok Tryz.prog 196 ⟨.other, 1, 8, .nilFunc⟩ := ⟨⟨_, Tryz.underlying196, rfl⟩, by kernel_rfl⟩
theorem ty197 : TyI.ok Tryz.prog 197 ⟨.other, 1, 8, .nilFunc⟩ := ⟨⟨_, Tryz.underlying197, rfl⟩, by kernel_rfl⟩
theorem ty198 : TyI.ok Tryz.prog 198 ⟨.other, 1, 8, .nilFunc⟩ := ⟨⟨_, Tryz.underlying198, rfl⟩, by kernel_rfl⟩
theorem ty199 : TyI.ok Tryz.prog 199 ⟨.other, 1, 8, .nilFunc⟩ := ⟨⟨_, Tryz.underlying199, rfl⟩, by kernel_rfl⟩
theorem ty200 : TyI.ok Tryz.prog 200 ⟨.other, 1, 8, .nilFunc⟩ := ⟨⟨_, Tryz.underlying200, rfl⟩, by kernel_rfl⟩
theorem ty201 : TyI.ok Tryz.prog 201 ⟨.other, 1, 8, .nilFunc⟩ := ⟨⟨_, Tryz.underlying201, rfl⟩, by kernel_rfl⟩
theorem ty202 : TyI.ok Tryz.prog 202 ⟨.other, 1, 8, .nilFunc⟩ := ⟨⟨_, Tryz.underlying202, rfl⟩, by kernel_rfl⟩
theorem ty203 : TyI.ok Tryz.prog 203 ⟨.other, 1, 8, .nilFunc⟩ := ⟨⟨_, Tryz.underlying203, rfl⟩, by kernel_rfl⟩
theorem ty204 : TyI.ok Tryz.prog 204 ⟨(.ptr 98), 1, 8, (.pointer none)⟩ := ⟨⟨_, Tryz.underlying204, rfl⟩, by kernel_rfl⟩
theorem ty205 : TyI.ok Tryz.prog 205 ⟨(.struct [(0, 2), (1, 65)]), 9, 88, (.agg #[(.int .i64 0), (.int .i64 0), (.int .i64 0), (.string ⟨#[]⟩), (.int .i64 0), (.int .i64 0), (.int .u8 0), (.int .i64 0), (.string ⟨#[]⟩)])⟩ := ⟨⟨_, Tryz.underlying205, _, rfl, rfl⟩, by kernel_rfl⟩
theorem ty206 : TyI.ok Tryz.prog 206 ⟨.other, 1, 8, .nilFunc⟩ := ⟨⟨_, Tryz.underlying206, rfl⟩, by kernel_rfl⟩
theorem ty207 : TyI.ok Tryz.prog 207 ⟨.other, 1, 8, .nilFunc⟩ := ⟨⟨_, Tryz.underlying207, rfl⟩, by kernel_rfl⟩
theorem ty208 : TyI.ok Tryz.prog 208 ⟨.other, 1, 8, .nilFunc⟩ := ⟨⟨_, Tryz.underlying208, rfl⟩, by kernel_rfl⟩
theorem ty209 : TyI.ok Tryz.prog 209 ⟨.other, 1, 8, .nilFunc⟩ := ⟨⟨_, Tryz.underlying209, rfl⟩, by kernel_rfl⟩
theorem ty210 : TyI.ok Tryz.prog 210 ⟨.other, 1, 8, .nilFunc⟩ := ⟨⟨_, Tryz.underlying210, rfl⟩, by kernel_rfl⟩
theorem ty211 : TyI.ok Tryz.prog 211 ⟨(.int .u64), 1, 8, (.int .u64 0)⟩ := ⟨⟨_, Tryz.underlying211, rfl⟩, by kernel_rfl⟩
theorem ty212 : TyI.ok Tryz.prog 212 ⟨.other, 1, 8, .nilFunc⟩ := ⟨⟨_, Tryz.underlying212, rfl⟩, by kernel_rfl⟩
theorem ty213 : TyI.ok Tryz.prog 213 ⟨.other, 1, 8, .nilFunc⟩ := ⟨⟨_, Tryz.underlying213, rfl⟩, by kernel_rfl⟩
theorem ty214 : TyI.ok Tryz.prog 214 ⟨.other, 1, 8, .nilFunc⟩ := ⟨⟨_, Tryz.underlying214, rfl⟩, by kernel_rfl⟩
theorem ty215 : TyI.ok Tryz.prog 215 ⟨.other, 1, 8, .nilFunc⟩ := ⟨⟨_, Tryz.underlying215, rfl⟩, by kernel_rfl⟩
theorem ty216 : TyI.ok Tryz.prog 216 ⟨.other, 1, 8, .nilFunc⟩ := ⟨⟨_, Tryz.underlying216, rfl⟩, by kernel_rfl⟩
theorem ty217 : TyI.ok Tryz.prog 217 ⟨.other, 1, 8, .nilFunc⟩ := ⟨⟨_, Tryz.underlying217, rfl⟩, by kernel_rfl⟩
theorem ty218 : TyI.ok Tryz.prog 218 ⟨.other, 1, 8, .nilFunc⟩ := ⟨⟨_, Tryz.underlying218, rfl⟩, by kernel_rfl⟩
theorem ty219 : TyI.ok Tryz.prog 219 ⟨(.slice 3), 1, 24, (.slice none 0 0)⟩ := ⟨⟨_, Tryz.underlying219, rfl⟩, by kernel_rfl⟩
theorem ty220 : TyI.ok Tryz.prog 220 ⟨.other, 1, 8, .nilFunc⟩ := ⟨⟨_, Tryz.underlying220, rfl⟩, by kernel_rfl⟩
theorem ty221 : TyI.ok Tryz.prog 221 ⟨.other, 1, 8, .nilFunc⟩ := ⟨⟨_, Tryz.underlying221, rfl⟩, by kernel_rfl⟩
theorem ty222 : TyI.ok Tryz.prog 222 ⟨(.int .i64), 1, 8, (.int .i64 0)⟩ := ⟨⟨_, Tryz.underlying222, rfl⟩, by kernel_rfl⟩
theorem ty224 : TyI.ok Tryz.prog 224 ⟨.other, 1, 8, .nilFunc⟩ := ⟨⟨_, Tryz.underlying224, rfl⟩, by kernel_rfl⟩
theorem ty225 : TyI.ok Tryz.prog 225 ⟨.other, 1, 8, .nilFunc⟩ := ⟨⟨_, Tryz.underlying225, rfl⟩, by kernel_rfl⟩
theorem ty226 : TyI.ok Tryz.prog 226 ⟨.other, 1, 8, .nilFunc⟩ := ⟨⟨_, Tryz.underlying226, rfl⟩, by kernel_rfl⟩
theorem ty227 : TyI.ok Tryz.prog 227 ⟨.other, 1, 8, .nilFunc⟩ := ⟨⟨_, Tryz.underlying227, rfl⟩, by kernel_rfl⟩
theorem ty229 : TyI.ok Tryz.prog 229 ⟨.other, 1, 8, .nilFunc⟩ := ⟨⟨_, Tryz.underlying229, rfl⟩, by kernel_rfl⟩
theorem ty230 : TyI.ok Tryz.prog 230 ⟨.other, 1, 8, .nilFunc⟩ := ⟨⟨_, Tryz.underlying230, rfl⟩, by kernel_rfl⟩
theorem ty231 : TyI.ok Tryz.prog 231 ⟨(.int .u32), 1, 4, (.int .u32 0)⟩ := ⟨⟨_, Tryz.underlying231, rfl⟩, by kernel_rfl⟩
theorem ty232 : TyI.ok Tryz.prog 232 ⟨.other, 1, 8, .nilFunc⟩ := ⟨⟨_, Tryz.underlying232, rfl⟩, by kernel_rfl⟩
theorem ty233 : TyI.ok Tryz.prog 233 ⟨(.int .u64), 1, 8, (.int .u64 0)⟩ := ⟨⟨_, Tryz.underlying233, rfl⟩, by kernel_rfl⟩
theorem ty234 : TyI.ok Tryz.prog 234 ⟨.other, 1, 8, .nilFunc⟩ := ⟨⟨_, Tryz.underlying234, rfl⟩, by kernel_rfl⟩
theorem ty235 : TyI.ok Tryz.prog 235 ⟨.other, 1, 8, .nilFunc⟩ := ⟨⟨_, Tryz.underlying235, rfl⟩, by kernel_rfl⟩
theorem ty236 : TyI.ok Tryz.prog 236 ⟨.other, 1, 8, .nilFunc⟩ := ⟨⟨_, Tryz.underlying236, rfl⟩, by kernel_rfl⟩
theorem ty237 : TyI.ok Tryz.prog 237 ⟨.other, 1, 8, .nilFunc⟩ := ⟨⟨_, Tryz.underlying237, rfl⟩, by kernel_rfl⟩
theorem ty238 : TyI.ok Tryz.prog 238 ⟨.other, 1, 8, .nilFunc⟩ := ⟨⟨_, Tryz.underlying238, rfl⟩, by kernel_rfl⟩
theorem ty239 : TyI.ok Tryz.prog 239 ⟨.other, 1, 8, .nilFunc⟩ := ⟨⟨_, Tryz.underlying239, rfl⟩, by kernel_rfl⟩
theorem ty240 : TyI.ok Tryz.prog 240 ⟨.other, 1, 8, .nilFunc⟩ := ⟨⟨_, Tryz.underlying240, rfl⟩, by kernel_rfl⟩
theorem ty241 : TyI.ok Tryz.prog 241 ⟨.other, 1, 8, .nilFunc⟩ := ⟨⟨_, Tryz.underlying241, rfl⟩, by kernel_rfl⟩
theorem ty242 : TyI.ok Tryz.prog 242 ⟨.other, 1, 8, .nilFunc⟩ := ⟨⟨_, Tryz.underlying242, rfl⟩, by kernel_rfl⟩
theorem ty243 : TyI.ok Tryz.prog 243 ⟨.other, 1, 8, .nilFunc⟩ := ⟨⟨_, Tryz.underlying243, rfl⟩, by kernel_rfl⟩
theorem ty244 : TyI.ok Tryz.prog 244 ⟨.other, 1, 8, .nilFunc⟩ := ⟨⟨_, Tryz.underlying244, rfl⟩, by kernel_rfl⟩
theorem ty245 : TyI.ok Tryz.prog 245 ⟨.other, 1, 8, .nilFunc⟩ := ⟨⟨_, Tryz.underlying245, rfl⟩, by kernel_rfl⟩
theorem ty246 : TyI.ok Tryz.prog 246 ⟨.other, 1, 8, .nilFunc⟩ := ⟨⟨_, Tryz.underlying246, rfl⟩, by kernel_rfl⟩
theorem ty247 : TyI.ok Tryz.prog 247 ⟨.other, 1, 8, .nilFunc⟩ := ⟨⟨_, Tryz.underlying247, rfl⟩, by kernel_rfl⟩
theorem ty248 : TyI.ok Tryz.prog 248 ⟨(.int .u64), 1, 8, (.int .u64 0)⟩ := ⟨⟨_, Tryz.underlying248, rfl⟩, by kernel_rfl⟩
theorem ty249 : TyI.ok Tryz.prog 249 ⟨.other, 1, 8, .nilFunc⟩ := ⟨⟨_, Tryz.underlying249, rfl⟩, by kernel_rfl⟩
theorem ty250 : TyI.ok Tryz.prog 250 ⟨.other, 1, 8, .nilFunc⟩ := ⟨⟨_, Tryz.underlying250, rfl⟩, by kernel_rfl⟩
theorem ty251 : TyI.ok Tryz.prog 251 ⟨.other, 1, 8, .nilFunc⟩ := ⟨⟨_, Tryz.underlying251, rfl⟩, by kernel_rfl⟩
theorem ty252 : TyI.ok Tryz.prog 252 ⟨(.ptr 3), 1, 8, (.pointer none)⟩ := ⟨⟨_, Tryz.underlying252, rfl⟩, by kernel_rfl⟩
theorem ty253 : TyI.ok Tryz.prog 253 ⟨.other, 1, 8, .nilFunc⟩ := ⟨⟨_, Tryz.underlying253, rfl⟩, by kernel_rfl⟩
theorem ty254 : TyI.ok Tryz.prog 254 ⟨.other, 1, 8, .nilFunc⟩ := ⟨⟨_, Tryz.underlying254, rfl⟩, by kernel_rfl⟩
theorem ty255 : TyI.ok Tryz.prog 255 ⟨.other, 1, 8, .nilFunc⟩ := ⟨⟨_, Tryz.underlying255, rfl⟩, by kernel_rfl⟩
theorem ty256 : TyI.ok Tryz.prog 256 ⟨.other, 1, 8, .nilFunc⟩ := ⟨⟨_, Tryz.underlying256, rfl⟩, by kernel_rfl⟩
theorem ty257 : TyI.ok Tryz.prog 257 ⟨.other, 1, 8, .nilFunc⟩ := ⟨⟨_, Tryz.underlying257, rfl⟩, by kernel_rfl⟩
theorem ty258 : TyI.ok Tryz.prog 258 ⟨.other, 1, 8, .nilFunc⟩ := ⟨⟨_, Tryz.underlying258, rfl⟩, by kernel_rfl⟩
theorem ty259 : TyI.ok Tryz.prog 259 ⟨(.ptr 248), 1, 8, (.pointer none)⟩ := ⟨⟨_, Tryz.underlying259, rfl⟩, by kernel_rfl⟩
theorem ty261 : TyI.ok Tryz.prog 261 ⟨.other, 1, 8, .nilFunc⟩ := ⟨⟨_, Tryz.underlying261, rfl⟩, by kernel_rfl⟩
theorem ty262 : TyI.ok Tryz.prog 262 ⟨.other, 1, 8, .nilFunc⟩ := ⟨⟨_, Tryz.underlying262, rfl⟩, by kernel_rfl⟩
theorem ty263 : TyI.ok Tryz.prog 263 ⟨.other, 1, 8, .nilFunc⟩ := ⟨⟨_, Tryz.underlying263, rfl⟩, by kernel_rfl⟩
theorem ty264 : TyI.ok Tryz.prog 264 ⟨.other, 1, 8, .nilFunc⟩ := ⟨⟨_, Tryz.underlying264, rfl⟩, by kernel_rfl⟩
theorem ty265 : TyI.ok Tryz.prog 265 ⟨(.struct [(0, 17), (1, 17), (2, 17), (3, 9)]), 4, 40, (.agg #[(.pointer none), (.pointer none), (.pointer none), (.string ⟨#[]⟩)])⟩ := ⟨⟨_, Tryz.underlying265, _, rfl, rfl⟩, by kernel_rfl⟩
theorem ty266 : TyI.ok Tryz.prog 266 ⟨(.struct [(0, 17), (1, 17), (2, 17), (3, 9)]), 4, 40, (.agg #[(.pointer none), (.pointer none), (.pointer none), (.string ⟨#[]⟩)])⟩ := ⟨⟨_, Tryz.underlying266, _, rfl, rfl⟩, by kernel_rfl⟩
theorem ty267 : TyI.ok Tryz.prog 267 ⟨(.array 0 16), 0, 0, (.agg #[])⟩ := ⟨⟨_, Tryz.underlying267, rfl⟩, by kernel_rfl⟩
theorem ty268 : TyI.ok Tryz.prog 268 ⟨(.struct [(0, 267)]), 0, 0, (.agg #[])⟩ := ⟨⟨_, Tryz.underlying268, _, rfl, rfl⟩, by kernel_rfl⟩
theorem ty269 : TyI.ok Tryz.prog 269 ⟨(.struct [(0, 267)]), 0, 0, (.agg #[])⟩ := ⟨⟨_, Tryz.underlying269, _, rfl, rfl⟩, by kernel_rfl⟩
theorem ty270 : TyI.ok Tryz.prog 270 ⟨(.int .u8), 1, 1, (.int .u8 0)⟩ := ⟨⟨_, Tryz.underlying270, rfl⟩, by kernel_rfl⟩
theorem ty271 : TyI.ok Tryz.prog 271 ⟨(.int .u8), 1, 1, (.int .u8 0)⟩ := ⟨⟨_, Tryz.underlying271, rfl⟩, by kernel_rfl⟩
theorem ty272 : TyI.ok Tryz.prog 272 ⟨.other, 1, 8, .nilFunc⟩ := ⟨⟨_, Tryz.underlying272, rfl⟩, by kernel_rfl⟩
theorem ty273 : TyI.ok Tryz.prog 273 ⟨(.ptr 5), 1, 8, (.pointer none)⟩ := ⟨⟨_, Tryz.underlying273, rfl⟩, by kernel_rfl⟩
theorem ty274 : TyI.ok Tryz.prog 274 ⟨(.int .i32), 1, 4, (.int .i32 0)⟩ := ⟨⟨_, Tryz.underlying274, rfl⟩, by kernel_rfl⟩
theorem ty275 : TyI.ok Tryz.prog 275 ⟨(.int .i32), 1, 4, (.int .i32 0)⟩ := ⟨⟨_, Tryz.underlying275, rfl⟩, by kernel_rfl⟩
theorem ty276 : TyI.ok Tryz.prog 276 ⟨(.struct [(0, 12), (1, 12), (2, 231), (3, 270), (4, 5), (5, 5), (6, 271), (7, 272), (8, 273), (9, 274), (10, 275)]), 11, 48, (.agg #[(.int .u64 0), (.int .u64 0), (.int .u32 0), (.int .u8 0), (.int .u8 0), (.int .u8 0), (.int .u8 0), .nilFunc, (.pointer none), (.int .i32 0), (.int .i32 0)])⟩ := ⟨⟨_, Tryz.underlying276, _, rfl, rfl⟩, by kernel_rfl⟩
theorem ty277 : TyI.ok Tryz.prog 277 ⟨(.struct [(0, 12), (1, 12), (2, 231), (3, 270), (4, 5), (5, 5), (6, 271), (7, 272), (8, 273), (9, 274), (10, 275)]), 11, 48, (.agg #[(.int .u64 0), (.int .u64 0), (.int .u32 0), (.int .u8 0), (.int .u8 0), (.int .u8 0), (.int .u8 0), .nilFunc, (.pointer none), (.int .i32 0), (.int .i32 0)])⟩ := ⟨⟨_, Tryz.underlying277, _, rfl, rfl⟩, by kernel_rfl⟩
theorem tabOk : TabOk Tryz.prog tab := .cons ty1 (.cons ty2 (.cons ty3 (.cons ty4 (.cons ty5 (.cons ty6 (.cons ty7 (.cons ty8 (.cons ty9 (.cons ty10 (.cons ty11 (.cons ty12 (.cons ty13 (.cons ty14 (.cons ty15 (.cons ty16 (.cons ty17 (.cons ty18 (.cons ty19 (.cons ty21 (.cons ty22 (.cons ty23 (.cons ty24 (.cons ty25 (.cons ty26 (.cons ty27 (.cons ty28 (.cons ty29 (.cons ty30 (.cons ty31 (.cons ty32 (.cons ty33 (.cons ty34 (.cons ty35 (.cons ty36 (.cons ty37 (.cons ty38 (.cons ty39 (.cons ty40 (.cons ty41 (.cons ty42 (.cons ty43 (.cons ty44 (.cons ty46 (.cons ty47 (.cons ty48 (.cons ty49 (.cons ty50 (.cons ty51 (.cons ty52 (.cons ty53 (.cons ty54 (.cons ty55 (.cons ty57 (.cons ty58 (.cons ty60 (.cons ty61 (.cons ty62 (.cons ty63 (.cons ty64 (.cons ty65 (.cons ty66 (.cons ty67 (.cons ty68 (.cons ty70 (.cons ty71 (.cons ty72 (.cons ty73 (.cons ty74 (.cons ty75 (.cons ty76 (.cons ty78 (.cons ty79 (.cons ty80 (.cons ty81 (.cons ty82 (.cons ty83 (.cons ty84 (.cons ty85 (.cons ty86 (.cons ty87 (.cons ty88 (.cons ty89 (.cons ty90 (.cons ty91 (.cons ty92 (.cons ty93 (.cons ty94 (.cons ty95 (.cons ty96 (.cons ty97 (.cons ty98 (.cons ty99 (.cons ty100 (.cons ty101 (.cons ty102 (.cons ty103 (.cons ty104 (.cons ty105 (.cons ty106 (.cons ty107 (.cons ty108 (.cons ty109 (.cons ty110 (.cons ty111 (.cons ty112 (.cons ty113 (.cons ty114 (.cons ty116 (.cons ty117 (.cons ty118 (.cons ty119 (.cons ty120 (.cons ty121 (.cons ty122 (.cons ty123 (.cons ty124 (.cons ty125 (.cons ty126 (.cons ty127 (.cons ty128 (.cons ty129 (.cons ty130 (.cons ty131 (.cons ty132 (.cons ty133 (.cons ty134 (.cons ty135 (.cons ty136 (.cons ty137 (.cons ty138 (.cons ty139 (.cons ty140 (.cons ty141 (.cons ty142 (.cons ty143 (.cons ty144 (.cons ty145 (.cons ty146 (.cons ty147 (.cons ty148 (.cons ty149 (.cons ty151 (.cons ty152 (.cons ty153 (.cons ty154 (.cons ty155 (.cons ty156 (.cons ty157 (.cons ty158 (.cons ty159 (.cons ty160 (.cons ty161 (.cons ty162 (.cons ty163 (.cons ty164 (.cons ty165 (.cons ty166 (.cons ty167 (.cons ty168 (.cons ty169 (.cons ty170 (.cons ty171 (.cons ty173 (.cons ty174 (.cons ty175 (.cons ty176 (.cons ty177 (.cons ty178 (.cons ty179 (.cons ty180 (.cons ty181 (.cons ty182 (.cons ty183 (.cons ty184 (.cons ty185 (.cons ty186 (.cons ty187 (.cons ty188 (.cons ty189 (.cons ty190 (.cons ty192 (.cons ty193 (.cons ty194 (.cons ty195 (.cons ty196 (.cons ty197 (.cons ty198 (.cons ty199 (.cons ty200 (.cons ty201 (.cons ty202 (.cons ty203 (.cons ty204 (.cons ty205 (.cons ty206 (.cons ty207 (.cons ty208 (.cons ty209 (.cons ty210 (.cons ty211 (.cons ty212 (.cons ty213 (.cons ty214 (.cons ty215 (.cons ty216 (.cons ty217 (.cons ty218 (.cons ty219 (.cons ty220 (.cons ty221 (.cons ty222 (.cons ty224 (.cons ty225 (.cons ty226 (.cons ty227 (.cons ty229 (.cons ty230 (.cons ty231 (.cons ty232 (.cons ty233 (.cons ty234 (.cons ty235 (.cons ty236 (.cons ty237 (.cons ty238 (.cons ty239 (.cons ty240 (.cons ty241 (.cons ty242 (.cons ty243 (.cons ty244 (.cons ty245 (.cons ty246 (.cons ty247 (.cons ty248 (.cons ty249 (.cons ty250 (.cons ty251 (.cons ty252 (.cons ty253 (.cons ty254 (.cons ty255 (.cons ty256 (.cons ty257 (.cons ty258 (.cons ty259 (.cons ty261 (.cons ty262 (.cons ty263 (.cons ty264 (.cons ty265 (.cons ty266 (.cons ty267 (.cons ty268 (.cons ty269 (.cons ty270 (.cons ty271 (.cons ty272 (.cons ty273 (.cons ty274 (.cons ty275 (.cons ty276 (.cons ty277 (.nil _))))))))))))))))))))))))))))))))))))))))))))))))))))))))))))))))))))))))))))))))))))))))))))))))))))))))))))))))))))))))))))))))))))))))))))))))))))))))))))))))))))))))))))))))))))))))))))))))))))))))))))))))))))))))))))))))))))))))))))))))))))))))))))))))))))))))
theorem mixed : Tryz.prog.follows .mixedOrders = true := by kernel_rfl
end Go.Proofs.YthpcahgdobnljaaGreat
