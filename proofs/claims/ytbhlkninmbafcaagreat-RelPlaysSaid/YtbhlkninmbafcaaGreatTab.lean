/- The types that the code of this seat names, and that the program says so. By a program of this session (wip/tab.py). -/
import Derived.Test.YtbhlkninmbafcaaGreatRxOps
import Derived.Test.YtbhlkninmbafcaaGreatProg
set_option maxRecDepth 100000
namespace Go.Proofs.YtbhlkninmbafcaaGreat
open Go.RX Go
def tab : Tab := [
  (1, ⟨.other, 1, 8, .nilFunc⟩),
  (2, ⟨(.int .i64), 1, 8, (.int .i64 0)⟩),
  (3, ⟨(.int .i64), 1, 8, (.int .i64 0)⟩),
  (4, ⟨.bool, 1, 1, (.bool false)⟩),
  (5, ⟨(.int .u8), 1, 1, (.int .u8 0)⟩),
  (6, ⟨(.int .u8), 1, 1, (.int .u8 0)⟩),
  (7, ⟨(.struct [(0, 2), (1, 3), (2, 4), (3, 6)]), 4, 24, (.agg #[(.int .i64 0), (.int .i64 0), (.bool false), (.int .u8 0)])⟩),
  (8, ⟨(.struct [(0, 2), (1, 3), (2, 4), (3, 6)]), 4, 24, (.agg #[(.int .i64 0), (.int .i64 0), (.bool false), (.int .u8 0)])⟩),
  (9, ⟨.str, 1, 16, (.string ⟨#[]⟩)⟩),
  (10, ⟨.str, 1, 16, (.string ⟨#[]⟩)⟩),
  (11, ⟨.str, 1, 16, (.string ⟨#[]⟩)⟩),
  (12, ⟨(.int .u64), 1, 8, (.int .u64 0)⟩),
  (13, ⟨(.struct [(0, 9), (1, 12)]), 2, 24, (.agg #[(.string ⟨#[]⟩), (.int .u64 0)])⟩),
  (14, ⟨(.struct [(0, 9), (1, 12)]), 2, 24, (.agg #[(.string ⟨#[]⟩), (.int .u64 0)])⟩),
  (15, ⟨(.ptr 164), 1, 8, (.pointer none)⟩),
  (16, ⟨(.ptr 167), 1, 8, (.pointer none)⟩),
  (17, ⟨(.ptr 175), 1, 8, (.pointer none)⟩),
  (18, ⟨(.struct [(0, 17)]), 1, 8, (.agg #[(.pointer none)])⟩),
  (19, ⟨(.struct [(0, 17)]), 1, 8, (.agg #[(.pointer none)])⟩),
  (21, ⟨(.int .i32), 1, 4, (.int .i32 0)⟩),
  (22, ⟨(.slice 41), 1, 24, (.slice none 0 0)⟩),
  (23, ⟨.other, 1, 8, .nilFunc⟩),
  (24, ⟨.other, 1, 8, .nilFunc⟩),
  (25, ⟨(.ptr 75), 1, 8, (.pointer none)⟩),
  (26, ⟨.other, 1, 8, .nilFunc⟩),
  (27, ⟨(.ptr 30), 1, 8, (.pointer none)⟩),
  (28, ⟨(.slice 5), 1, 24, (.slice none 0 0)⟩),
  (29, ⟨(.struct [(0, 28)]), 1, 24, (.agg #[(.slice none 0 0)])⟩),
  (30, ⟨(.struct [(0, 28)]), 1, 24, (.agg #[(.slice none 0 0)])⟩),
  (31, ⟨(.ptr 78), 1, 8, (.pointer none)⟩),
  (32, ⟨.other, 1, 8, .nilFunc⟩),
  (33, ⟨(.ptr 39), 1, 8, (.pointer none)⟩),
  (34, ⟨.other, 1, 8, .nilFunc⟩),
  (35, ⟨(.slice 50), 1, 24, (.slice none 0 0)⟩),
  (36, ⟨.other, 1, 8, .nilFunc⟩),
  (37, ⟨(.slice 81), 1, 24, (.slice none 0 0)⟩),
  (38, ⟨(.struct [(0, 37)]), 1, 24, (.agg #[(.slice none 0 0)])⟩),
  (39, ⟨(.struct [(0, 37)]), 1, 24, (.agg #[(.slice none 0 0)])⟩),
  (40, ⟨(.struct [(0, 5), (1, 5), (2, 5), (3, 3), (4, 2), (5, 9)]), 6, 40, (.agg #[(.int .u8 0), (.int .u8 0), (.int .u8 0), (.int .i64 0), (.int .i64 0), (.string ⟨#[]⟩)])⟩),
  (41, ⟨(.struct [(0, 5), (1, 5), (2, 5), (3, 3), (4, 2), (5, 9)]), 6, 40, (.agg #[(.int .u8 0), (.int .u8 0), (.int .u8 0), (.int .i64 0), (.int .i64 0), (.string ⟨#[]⟩)])⟩),
  (42, ⟨(.int .i64), 1, 8, (.int .i64 0)⟩),
  (44, ⟨.other, 1, 8, .nilFunc⟩),
  (45, ⟨(.slice 2), 1, 24, (.slice none 0 0)⟩),
  (46, ⟨(.struct [(0, 2), (1, 45)]), 2, 32, (.agg #[(.int .i64 0), (.slice none 0 0)])⟩),
  (47, ⟨(.struct [(0, 2), (1, 45)]), 2, 32, (.agg #[(.int .i64 0), (.slice none 0 0)])⟩),
  (48, ⟨.other, 1, 8, .nilFunc⟩),
  (49, ⟨(.struct [(0, 47), (2, 2)]), 3, 40, (.agg #[(.int .i64 0), (.slice none 0 0), (.int .i64 0)])⟩),
  (50, ⟨(.struct [(0, 47), (2, 2)]), 3, 40, (.agg #[(.int .i64 0), (.slice none 0 0), (.int .i64 0)])⟩),
  (51, ⟨(.struct [(0, 47), (2, 2)]), 3, 40, (.agg #[(.int .i64 0), (.slice none 0 0), (.int .i64 0)])⟩),
  (52, ⟨.other, 1, 8, .nilFunc⟩),
  (53, ⟨.other, 1, 8, .nilFunc⟩),
  (54, ⟨(.struct [(0, 2), (1, 9)]), 2, 24, (.agg #[(.int .i64 0), (.string ⟨#[]⟩)])⟩),
  (55, ⟨(.struct [(0, 2), (1, 9)]), 2, 24, (.agg #[(.int .i64 0), (.string ⟨#[]⟩)])⟩),
  (56, ⟨(.struct [(0, 5), (1, 3), (2, 55)]), 4, 40, (.agg #[(.int .u8 0), (.int .i64 0), (.int .i64 0), (.string ⟨#[]⟩)])⟩),
  (57, ⟨(.struct [(0, 5), (1, 3), (2, 55)]), 4, 40, (.agg #[(.int .u8 0), (.int .i64 0), (.int .i64 0), (.string ⟨#[]⟩)])⟩),
  (58, ⟨(.struct [(0, 5), (1, 3), (2, 55)]), 4, 40, (.agg #[(.int .u8 0), (.int .i64 0), (.int .i64 0), (.string ⟨#[]⟩)])⟩),
  (59, ⟨(.slice 55), 1, 24, (.slice none 0 0)⟩),
  (61, ⟨.other, 1, 8, .nilFunc⟩),
  (62, ⟨.other, 1, 8, .nilFunc⟩),
  (63, ⟨.other, 1, 8, .nilFunc⟩),
  (64, ⟨.other, 1, 8, .nilFunc⟩),
  (65, ⟨(.slice 72), 1, 24, (.slice none 0 0)⟩),
  (66, ⟨.other, 1, 8, .nilFunc⟩),
  (67, ⟨(.slice 101), 1, 24, (.slice none 0 0)⟩),
  (68, ⟨.other, 1, 8, .nilFunc⟩),
  (69, ⟨.other, 1, 8, .nilFunc⟩),
  (70, ⟨.other, 1, 8, .nilFunc⟩),
  (71, ⟨(.struct [(0, 4), (1, 55)]), 3, 32, (.agg #[(.bool false), (.int .i64 0), (.string ⟨#[]⟩)])⟩),
  (72, ⟨(.struct [(0, 4), (1, 55)]), 3, 32, (.agg #[(.bool false), (.int .i64 0), (.string ⟨#[]⟩)])⟩),
  (73, ⟨(.map 2 4), 1, 8, (.map none)⟩),
  (74, ⟨(.struct [(0, 2), (1, 73), (2, 73)]), 3, 24, (.agg #[(.int .i64 0), (.map none), (.map none)])⟩),
  (75, ⟨(.struct [(0, 2), (1, 73), (2, 73)]), 3, 24, (.agg #[(.int .i64 0), (.map none), (.map none)])⟩),
  (76, ⟨(.slice 79), 1, 24, (.slice none 0 0)⟩),
  (77, ⟨(.struct [(0, 76)]), 1, 24, (.agg #[(.slice none 0 0)])⟩),
  (78, ⟨(.struct [(0, 76)]), 1, 24, (.agg #[(.slice none 0 0)])⟩),
  (79, ⟨(.ptr 108), 1, 8, (.pointer none)⟩),
  (80, ⟨.other, 1, 8, .nilFunc⟩),
  (81, ⟨(.ptr 84), 1, 8, (.pointer none)⟩),
  (82, ⟨(.slice 123), 1, 24, (.slice none 0 0)⟩),
  (83, ⟨(.struct [(0, 27), (1, 82)]), 2, 32, (.agg #[(.pointer none), (.slice none 0 0)])⟩),
  (84, ⟨(.struct [(0, 27), (1, 82)]), 2, 32, (.agg #[(.pointer none), (.slice none 0 0)])⟩),
  (85, ⟨.other, 1, 8, .nilFunc⟩),
  (86, ⟨.other, 1, 8, .nilFunc⟩),
  (87, ⟨.other, 1, 8, .nilFunc⟩),
  (88, ⟨.other, 1, 8, .nilFunc⟩),
  (89, ⟨.other, 1, 8, .nilFunc⟩),
  (90, ⟨.other, 1, 8, .nilFunc⟩),
  (91, ⟨.other, 1, 8, .nilFunc⟩),
  (92, ⟨.other, 1, 8, .nilFunc⟩),
  (94, ⟨.other, 1, 8, .nilFunc⟩),
  (95, ⟨.other, 1, 8, .nilFunc⟩),
  (96, ⟨.other, 1, 8, .nilFunc⟩),
  (97, ⟨.other, 1, 8, .nilFunc⟩),
  (98, ⟨.other, 1, 8, .nilFunc⟩),
  (99, ⟨.other, 1, 8, .nilFunc⟩),
  (100, ⟨.other, 1, 8, .nilFunc⟩),
  (101, ⟨(.struct [(0, 4), (1, 55)]), 3, 32, (.agg #[(.bool false), (.int .i64 0), (.string ⟨#[]⟩)])⟩),
  (102, ⟨.other, 1, 8, .nilFunc⟩),
  (103, ⟨.other, 1, 8, .nilFunc⟩),
  (104, ⟨.other, 1, 8, .nilFunc⟩),
  (105, ⟨.other, 1, 8, .nilFunc⟩),
  (106, ⟨(.slice 113), 1, 24, (.slice none 0 0)⟩),
  (107, ⟨(.struct [(0, 25), (1, 106)]), 2, 32, (.agg #[(.pointer none), (.slice none 0 0)])⟩),
  (108, ⟨(.struct [(0, 25), (1, 106)]), 2, 32, (.agg #[(.pointer none), (.slice none 0 0)])⟩),
  (109, ⟨.other, 1, 8, .nilFunc⟩),
  (110, ⟨.other, 1, 8, .nilFunc⟩),
  (111, ⟨.other, 1, 8, .nilFunc⟩),
  (112, ⟨(.struct [(0, 55), (2, 2), (3, 2)]), 4, 40, (.agg #[(.int .i64 0), (.string ⟨#[]⟩), (.int .i64 0), (.int .i64 0)])⟩),
  (113, ⟨(.struct [(0, 55), (2, 2), (3, 2)]), 4, 40, (.agg #[(.int .i64 0), (.string ⟨#[]⟩), (.int .i64 0), (.int .i64 0)])⟩),
  (114, ⟨.other, 1, 8, .nilFunc⟩),
  (115, ⟨.other, 1, 8, .nilFunc⟩),
  (116, ⟨.other, 1, 8, .nilFunc⟩),
  (117, ⟨.other, 1, 8, .nilFunc⟩),
  (118, ⟨.other, 1, 8, .nilFunc⟩),
  (119, ⟨.other, 1, 8, .nilFunc⟩),
  (120, ⟨.other, 1, 8, .nilFunc⟩),
  (121, ⟨.other, 1, 8, .nilFunc⟩),
  (122, ⟨(.struct [(0, 55), (2, 2), (3, 2)]), 4, 40, (.agg #[(.int .i64 0), (.string ⟨#[]⟩), (.int .i64 0), (.int .i64 0)])⟩),
  (123, ⟨(.struct [(0, 55), (2, 2), (3, 2)]), 4, 40, (.agg #[(.int .i64 0), (.string ⟨#[]⟩), (.int .i64 0), (.int .i64 0)])⟩),
  (124, ⟨.other, 1, 8, .nilFunc⟩),
  (125, ⟨.other, 1, 8, .nilFunc⟩),
  (126, ⟨.other, 1, 8, .nilFunc⟩),
  (127, ⟨.other, 1, 8, .nilFunc⟩),
  (128, ⟨.other, 1, 8, .nilFunc⟩),
  (129, ⟨.other, 1, 8, .nilFunc⟩),
  (130, ⟨.other, 1, 8, .nilFunc⟩),
  (131, ⟨.other, 1, 8, .nilFunc⟩),
  (132, ⟨.other, 1, 8, .nilFunc⟩),
  (133, ⟨.other, 1, 8, .nilFunc⟩),
  (134, ⟨.other, 1, 8, .nilFunc⟩),
  (135, ⟨.other, 1, 8, .nilFunc⟩),
  (136, ⟨(.int .u64), 1, 8, (.int .u64 0)⟩),
  (137, ⟨.other, 1, 8, .nilFunc⟩),
  (138, ⟨.other, 1, 8, .nilFunc⟩),
  (139, ⟨.other, 1, 8, .nilFunc⟩),
  (140, ⟨.other, 1, 8, .nilFunc⟩),
  (141, ⟨(.int .i64), 1, 8, (.int .i64 0)⟩),
  (143, ⟨.other, 1, 8, .nilFunc⟩),
  (144, ⟨.other, 1, 8, .nilFunc⟩),
  (145, ⟨.other, 1, 8, .nilFunc⟩),
  (146, ⟨.other, 1, 8, .nilFunc⟩),
  (148, ⟨.other, 1, 8, .nilFunc⟩),
  (149, ⟨.other, 1, 8, .nilFunc⟩),
  (150, ⟨(.int .u32), 1, 4, (.int .u32 0)⟩),
  (151, ⟨.other, 1, 8, .nilFunc⟩),
  (152, ⟨(.int .u64), 1, 8, (.int .u64 0)⟩),
  (153, ⟨(.int .u64), 1, 8, (.int .u64 0)⟩),
  (154, ⟨.other, 1, 8, .nilFunc⟩),
  (155, ⟨.other, 1, 8, .nilFunc⟩),
  (156, ⟨.other, 1, 8, .nilFunc⟩),
  (157, ⟨(.ptr 3), 1, 8, (.pointer none)⟩),
  (158, ⟨.other, 1, 8, .nilFunc⟩),
  (159, ⟨(.ptr 153), 1, 8, (.pointer none)⟩),
  (161, ⟨.other, 1, 8, .nilFunc⟩),
  (162, ⟨.other, 1, 8, .nilFunc⟩),
  (163, ⟨(.struct [(0, 17), (1, 17), (2, 17), (3, 9)]), 4, 40, (.agg #[(.pointer none), (.pointer none), (.pointer none), (.string ⟨#[]⟩)])⟩),
  (164, ⟨(.struct [(0, 17), (1, 17), (2, 17), (3, 9)]), 4, 40, (.agg #[(.pointer none), (.pointer none), (.pointer none), (.string ⟨#[]⟩)])⟩),
  (165, ⟨(.array 0 16), 0, 0, (.agg #[])⟩),
  (166, ⟨(.struct [(0, 165)]), 0, 0, (.agg #[])⟩),
  (167, ⟨(.struct [(0, 165)]), 0, 0, (.agg #[])⟩),
  (168, ⟨(.int .u8), 1, 1, (.int .u8 0)⟩),
  (169, ⟨(.int .u8), 1, 1, (.int .u8 0)⟩),
  (170, ⟨.other, 1, 8, .nilFunc⟩),
  (171, ⟨(.ptr 5), 1, 8, (.pointer none)⟩),
  (172, ⟨(.int .i32), 1, 4, (.int .i32 0)⟩),
  (173, ⟨(.int .i32), 1, 4, (.int .i32 0)⟩),
  (174, ⟨(.struct [(0, 12), (1, 12), (2, 150), (3, 168), (4, 5), (5, 5), (6, 169), (7, 170), (8, 171), (9, 172), (10, 173)]), 11, 48, (.agg #[(.int .u64 0), (.int .u64 0), (.int .u32 0), (.int .u8 0), (.int .u8 0), (.int .u8 0), (.int .u8 0), .nilFunc, (.pointer none), (.int .i32 0), (.int .i32 0)])⟩),
  (175, ⟨(.struct [(0, 12), (1, 12), (2, 150), (3, 168), (4, 5), (5, 5), (6, 169), (7, 170), (8, 171), (9, 172), (10, 173)]), 11, 48, (.agg #[(.int .u64 0), (.int .u64 0), (.int .u32 0), (.int .u8 0), (.int .u8 0), (.int .u8 0), (.int .u8 0), .nilFunc, (.pointer none), (.int .i32 0), (.int .i32 0)])⟩)]
theorem ty1 : TyI.ok Tryz.prog 1 ⟨.other, 1, 8, .nilFunc⟩ := ⟨⟨_, Tryz.underlying1, rfl⟩, by kernel_rfl⟩
theorem ty2 : TyI.ok Tryz.prog 2 ⟨(.int .i64), 1, 8, (.int .i64 0)⟩ := ⟨⟨_, Tryz.underlying2, rfl⟩, by kernel_rfl⟩
theorem ty3 : TyI.ok Tryz.prog 3 ⟨(.int .i64), 1, 8, (.int .i64 0)⟩ := ⟨⟨_, Tryz.underlying3, rfl⟩, by kernel_rfl⟩
theorem ty4 : TyI.ok Tryz.prog 4 ⟨.bool, 1, 1, (.bool false)⟩ := ⟨⟨_, Tryz.underlying4, rfl⟩, by kernel_rfl⟩
theorem ty5 : TyI.ok Tryz.prog 5 ⟨(.int .u8), 1, 1, (.int .u8 0)⟩ := ⟨⟨_, Tryz.underlying5, rfl⟩, by kernel_rfl⟩
theorem ty6 : TyI.ok Tryz.prog 6 ⟨(.int .u8), 1, 1, (.int .u8 0)⟩ := ⟨⟨_, Tryz.underlying6, rfl⟩, by kernel_rfl⟩
theorem ty7 : TyI.ok Tryz.prog 7 ⟨(.struct [(0, 2), (1, 3), (2, 4), (3, 6)]), 4, 24, (.agg #[(.int .i64 0), (.int .i64 0), (.bool false), (.int .u8 0)])⟩ := ⟨⟨_, Tryz.underlying7, _, rfl, rfl⟩, by kernel_rfl⟩
theorem ty8 : TyI.ok Tryz.prog 8 ⟨(.struct [(0, 2), (1, 3), (2, 4), (3, 6)]), 4, 24, (.agg #[(.int .i64 0), (.int .i64 0), (.bool false), (.int .u8 0)])⟩ := ⟨⟨_, Tryz.underlying8, _, rfl, rfl⟩, by kernel_rfl⟩
theorem ty9 : TyI.ok Tryz.prog 9 ⟨.str, 1, 16, (.string ⟨#[]⟩)⟩ := ⟨⟨_, Tryz.underlying9, rfl⟩, by kernel_rfl⟩
theorem ty10 : TyI.ok Tryz.prog 10 ⟨.str, 1, 16, (.string ⟨#[]⟩)⟩ := ⟨⟨_, Tryz.underlying10, rfl⟩, by kernel_rfl⟩
theorem ty11 : TyI.ok Tryz.prog 11 ⟨.str, 1, 16, (.string ⟨#[]⟩)⟩ := ⟨⟨_, Tryz.underlying11, rfl⟩, by kernel_rfl⟩
theorem ty12 : TyI.ok Tryz.prog 12 ⟨(.int .u64), 1, 8, (.int .u64 0)⟩ := ⟨⟨_, Tryz.underlying12, rfl⟩, by kernel_rfl⟩
theorem ty13 : TyI.ok Tryz.prog 13 ⟨(.struct [(0, 9), (1, 12)]), 2, 24, (.agg #[(.string ⟨#[]⟩), (.int .u64 0)])⟩ := ⟨⟨_, Tryz.underlying13, _, rfl, rfl⟩, by kernel_rfl⟩
theorem ty14 : TyI.ok Tryz.prog 14 ⟨(.struct [(0, 9), (1, 12)]), 2, 24, (.agg #[(.string ⟨#[]⟩), (.int .u64 0)])⟩ := ⟨⟨_, Tryz.underlying14, _, rfl, rfl⟩, by kernel_rfl⟩
theorem ty15 : TyI.ok Tryz.prog 15 ⟨(.ptr 164), 1, 8, (.pointer none)⟩ := ⟨⟨_, Tryz.underlying15, rfl⟩, by kernel_rfl⟩
theorem ty16 : TyI.ok Tryz.prog 16 ⟨(.ptr 167), 1, 8, (.pointer none)⟩ := ⟨⟨_, Tryz.underlying16, rfl⟩, by kernel_rfl⟩
theorem ty17 : TyI.ok Tryz.prog 17 ⟨(.ptr 175), 1, 8, (.pointer none)⟩ := ⟨⟨_, Tryz.underlying17, rfl⟩, by kernel_rfl⟩
theorem ty18 : TyI.ok Tryz.prog 18 ⟨(.struct [(0, 17)]), 1, 8, (.agg #[(.pointer none)])⟩ := ⟨⟨_, Tryz.underlying18, _, rfl, rfl⟩, by kernel_rfl⟩
theorem ty19 : TyI.ok Tryz.prog 19 ⟨(.struct [(0, 17)]), 1, 8, (.agg #[(.pointer none)])⟩ := ⟨⟨_, Tryz.underlying19, _, rfl, rfl⟩, by kernel_rfl⟩
theorem ty21 : TyI.ok Tryz.prog 21 ⟨(.int .i32), 1, 4, (.int .i32 0)⟩ := ⟨⟨_, Tryz.underlying21, rfl⟩, by kernel_rfl⟩
theorem ty22 : TyI.ok Tryz.prog 22 ⟨(.slice 41), 1, 24, (.slice none 0 0)⟩ := ⟨⟨_, Tryz.underlying22, rfl⟩, by kernel_rfl⟩
theorem ty23 : TyI.ok Tryz.prog 23 ⟨.other, 1, 8, .nilFunc⟩ := ⟨⟨_, Tryz.underlying23, rfl⟩, by kernel_rfl⟩
theorem ty24 : TyI.ok Tryz.prog 24 ⟨.other, 1, 8, .nilFunc⟩ := ⟨⟨_, Tryz.underlying24, rfl⟩, by kernel_rfl⟩
theorem ty25 : TyI.ok Tryz.prog 25 ⟨(.ptr 75), 1, 8, (.pointer none)⟩ := ⟨⟨_, Tryz.underlying25, rfl⟩, by kernel_rfl⟩
theorem ty26 : TyI.ok Tryz.prog 26 ⟨.other, 1, 8, .nilFunc⟩ := ⟨⟨_, Tryz.underlying26, rfl⟩, by kernel_rfl⟩
theorem ty27 : TyI.ok Tryz.prog 27 ⟨(.ptr 30), 1, 8, (.pointer none)⟩ := ⟨⟨_, Tryz.underlying27, rfl⟩, by kernel_rfl⟩
theorem ty28 : TyI.ok Tryz.prog 28 ⟨(.slice 5), 1, 24, (.slice none 0 0)⟩ := ⟨⟨_, Tryz.underlying28, rfl⟩, by kernel_rfl⟩
theorem ty29 : TyI.ok Tryz.prog 29 ⟨(.struct [(0, 28)]), 1, 24, (.agg #[(.slice none 0 0)])⟩ := ⟨⟨_, Tryz.underlying29, _, rfl, rfl⟩, by kernel_rfl⟩
theorem ty30 : TyI.ok Tryz.prog 30 ⟨(.struct [(0, 28)]), 1, 24, (.agg #[(.slice none 0 0)])⟩ := ⟨⟨_, Tryz.underlying30, _, rfl, rfl⟩, by kernel_rfl⟩
theorem ty31 : TyI.ok Tryz.prog 31 ⟨(.ptr 78), 1, 8, (.pointer none)⟩ := ⟨⟨_, Tryz.underlying31, rfl⟩, by kernel_rfl⟩
theorem ty32 : TyI.ok Tryz.prog 32 ⟨.other, 1, 8, .nilFunc⟩ := ⟨⟨_, Tryz.underlying32, rfl⟩, by kernel_rfl⟩
theorem ty33 : TyI.ok Tryz.prog 33 ⟨(.ptr 39), 1, 8, (.pointer none)⟩ := ⟨⟨_, Tryz.underlying33, rfl⟩, by kernel_rfl⟩
theorem ty34 : TyI.ok Tryz.prog 34 ⟨.other, 1, 8, .nilFunc⟩ := ⟨⟨_, Tryz.underlying34, rfl⟩, by kernel_rfl⟩
theorem ty35 : TyI.ok Tryz.prog 35 ⟨(.slice 50), 1, 24, (.slice none 0 0)⟩ := ⟨⟨_, Tryz.underlying35, rfl⟩, by kernel_rfl⟩
theorem ty36 : TyI.ok Tryz.prog 36 ⟨.other, 1, 8, .nilFunc⟩ := ⟨⟨_, Tryz.underlying36, rfl⟩, by kernel_rfl⟩
theorem ty37 : TyI.ok Tryz.prog 37 ⟨(.slice 81), 1, 24, (.slice none 0 0)⟩ := ⟨⟨_, Tryz.underlying37, rfl⟩, by kernel_rfl⟩
theorem ty38 : TyI.ok Tryz.prog 38 ⟨(.struct [(0, 37)]), 1, 24, (.agg #[(.slice none 0 0)])⟩ := ⟨⟨_, Tryz.underlying38, _, rfl, rfl⟩, by kernel_rfl⟩
theorem ty39 : TyI.ok Tryz.prog 39 ⟨(.struct [(0, 37)]), 1, 24, (.agg #[(.slice none 0 0)])⟩ := ⟨⟨_, Tryz.underlying39, _, rfl, rfl⟩, by kernel_rfl⟩
theorem ty40 : TyI.ok Tryz.prog 40 ⟨(.struct [(0, 5), (1, 5), (2, 5), (3, 3), (4, 2), (5, 9)]), 6, 40, (.agg #[(.int .u8 0), (.int .u8 0), (.int .u8 0), (.int .i64 0), (.int .i64 0), (.string ⟨#[]⟩)])⟩ := ⟨⟨_, Tryz.underlying40, _, rfl, rfl⟩, by kernel_rfl⟩
theorem ty41 : TyI.ok Tryz.prog 41 ⟨(.struct [(0, 5), (1, 5), (2, 5), (3, 3), (4, 2), (5, 9)]), 6, 40, (.agg #[(.int .u8 0), (.int .u8 0), (.int .u8 0), (.int .i64 0), (.int .i64 0), (.string ⟨#[]⟩)])⟩ := ⟨⟨_, Tryz.underlying41, _, rfl, rfl⟩, by kernel_rfl⟩
theorem ty42 : TyI.ok Tryz.prog 42 ⟨(.int .i64), 1, 8, (.int .i64 0)⟩ := ⟨⟨_, Tryz.underlying42, rfl⟩, by kernel_rfl⟩
theorem ty44 : TyI.ok Tryz.prog 44 ⟨.other, 1, 8, .nilFunc⟩ := ⟨⟨_, Tryz.underlying44, rfl⟩, by kernel_rfl⟩
theorem ty45 : TyI.ok Tryz.prog 45 ⟨(.slice 2), 1, 24, (.slice none 0 0)⟩ := ⟨⟨_, Tryz.underlying45, rfl⟩, by kernel_rfl⟩
theorem ty46 : TyI.ok Tryz.prog 46 ⟨(.struct [(0, 2), (1, 45)]), 2, 32, (.agg #[(.int .i64 0), (.slice none 0 0)])⟩ := ⟨⟨_, Tryz.underlying46, _, rfl, rfl⟩, by kernel_rfl⟩
theorem ty47 : TyI.ok Tryz.prog 47 ⟨(.struct [(0, 2), (1, 45)]), 2, 32, (.agg #[(.int .i64 0), (.slice none 0 0)])⟩ := ⟨⟨_, Tryz.underlying47, _, rfl, rfl⟩, by kernel_rfl⟩
theorem ty48 : TyI.ok Tryz.prog 48 ⟨.other, 1, 8, .nilFunc⟩ := ⟨⟨_, Tryz.underlying48, rfl⟩, by kernel_rfl⟩
theorem ty49 : TyI.ok Tryz.prog 49 ⟨(.struct [(0, 47), (2, 2)]), 3, 40, (.agg #[(.int .i64 0), (.slice none 0 0), (.int .i64 0)])⟩ := ⟨⟨_, Tryz.underlying49, _, rfl, rfl⟩, by kernel_rfl⟩
theorem ty50 : TyI.ok Tryz.prog 50 ⟨(.struct [(0, 47), (2, 2)]), 3, 40, (.agg #[(.int .i64 0), (.slice none 0 0), (.int .i64 0)])⟩ := ⟨⟨_, Tryz.underlying50, _, rfl, rfl⟩, by kernel_rfl⟩
theorem ty51 : TyI.ok Tryz.prog 51 ⟨(.struct [(0, 47), (2, 2)]), 3, 40, (.agg #[(.int .i64 0), (.slice none 0 0), (.int .i64 0)])⟩ := ⟨⟨_, Tryz.underlying51, _, rfl, rfl⟩, by kernel_rfl⟩
theorem ty52 : TyI.ok Tryz.prog 52 ⟨.other, 1, 8, .nilFunc⟩ := ⟨⟨_, Tryz.underlying52, rfl⟩, by kernel_rfl⟩
theorem ty53 : TyI.ok Tryz.prog 53 ⟨.other, 1, 8, .nilFunc⟩ := ⟨⟨_, Tryz.underlying53, rfl⟩, by kernel_rfl⟩
theorem ty54 : TyI.ok Tryz.prog 54 ⟨(.struct [(0, 2), (1, 9)]), 2, 24, (.agg #[(.int .i64 0), (.string ⟨#[]⟩)])⟩ := ⟨⟨_, Tryz.underlying54, _, rfl, rfl⟩, by kernel_rfl⟩
theorem ty55 : TyI.ok Tryz.prog 55 ⟨(.struct [(0, 2), (1, 9)]), 2, 24, (.agg #[(.int .i64 0), (.string ⟨#[]⟩)])⟩ := ⟨⟨_, Tryz.underlying55, _, rfl, rfl⟩, by kernel_rfl⟩
theorem ty56 : TyI.ok Tryz.prog 56 ⟨(.struct [(0, 5), (1, 3), (2, 55)]), 4, 40, (.agg #[(.int .u8 0), (.int .i64 0), (.int .i64 0), (.string ⟨#[]⟩)])⟩ := ⟨⟨_, Tryz.underlying56, _, rfl, rfl⟩, by kernel_rfl⟩
theorem ty57 : TyI.ok Tryz.prog 57 ⟨(.struct [(0, 5), (1, 3), (2, 55)]), 4, 40, (.agg #[(.int .u8 0), (.int .i64 0), (.int .i64 0), (.string ⟨#[]⟩)])⟩ := ⟨⟨_, Tryz.underlying57, _, rfl, rfl⟩, by kernel_rfl⟩
theorem ty58 : TyI.ok Tryz.prog 58 ⟨(.struct [(0, 5), (1, 3), (2, 55)]), 4, 40, (.agg #[(.int .u8 0), (.int .i64 0), (.int .i64 0), (.string ⟨#[]⟩)])⟩ := ⟨⟨_, Tryz.underlying58, _, rfl, rfl⟩, by kernel_rfl⟩
theorem ty59 : TyI.ok Tryz.prog 59 ⟨(.slice 55), 1, 24, (.slice none 0 0)⟩ := ⟨⟨_, Tryz.underlying59, rfl⟩, by kernel_rfl⟩
theorem ty61 : TyI.ok Tryz.prog 61 ⟨.other, 1, 8, .nilFunc⟩ := ⟨⟨_, Tryz.underlying61, rfl⟩, by kernel_rfl⟩
theorem ty62 : TyI.ok Tryz.prog 62 ⟨.other, 1, 8, .nilFunc⟩ := ⟨⟨_, Tryz.underlying62, rfl⟩, by kernel_rfl⟩
theorem ty63 : TyI.ok Tryz.prog 63 ⟨.other, 1, 8, .nilFunc⟩ := ⟨⟨_, Tryz.underlying63, rfl⟩, by kernel_rfl⟩
theorem ty64 : TyI.ok Tryz.prog 64 ⟨.other, 1, 8, .nilFunc⟩ := ⟨⟨_, Tryz.underlying64, rfl⟩, by kernel_rfl⟩
theorem ty65 : TyI.ok Tryz.prog 65 ⟨(.slice 72), 1, 24, (.slice none 0 0)⟩ := ⟨⟨_, Tryz.underlying65, rfl⟩, by kernel_rfl⟩
theorem ty66 : TyI.ok Tryz.prog 66 ⟨.other, 1, 8, .nilFunc⟩ := ⟨⟨_, Tryz.underlying66, rfl⟩, by kernel_rfl⟩
theorem ty67 : TyI.ok Tryz.prog 67 ⟨(.slice 101), 1, 24, (.slice none 0 0)⟩ := ⟨⟨_, Tryz.underlying67, rfl⟩, by kernel_rfl⟩
theorem ty68 : TyI.ok Tryz.prog 68 ⟨.other, 1, 8, .nilFunc⟩ := ⟨⟨_, Tryz.underlying68, rfl⟩, by kernel_rfl⟩
theorem ty69 : TyI.ok Tryz.prog 69 ⟨.other, 1, 8, .nilFunc⟩ := ⟨⟨_, Tryz.underlying69, rfl⟩, by kernel_rfl⟩
theorem ty70 : TyI.ok Tryz.prog 70 ⟨.other, 1, 8, .nilFunc⟩ := ⟨⟨_, Tryz.underlying70, rfl⟩, by kernel_rfl⟩
theorem ty71 : TyI.ok Tryz.prog 71 ⟨(.struct [(0, 4), (1, 55)]), 3, 32, (.agg #[(.bool false), (.int .i64 0), (.string ⟨#[]⟩)])⟩ := ⟨⟨_, Tryz.underlying71, _, rfl, rfl⟩, by kernel_rfl⟩
theorem ty72 : TyI.ok Tryz.prog 72 ⟨(.struct [(0, 4), (1, 55)]), 3, 32, (.agg #[(.bool false), (.int .i64 0), (.string ⟨#[]⟩)])⟩ := ⟨⟨_, Tryz.underlying72, _, rfl, rfl⟩, by kernel_rfl⟩
theorem ty73 : TyI.ok Tryz.prog 73 ⟨(.map 2 4), 1, 8, (.map none)⟩ := ⟨⟨_, Tryz.underlying73, rfl⟩, by kernel_rfl⟩
theorem ty74 : TyI.ok Tryz.prog 74 ⟨(.struct [(0, 2), (1, 73), (2, 73)]), 3, 24, (.agg #[(.int .i64 0), (.map none), (.map none)])⟩ := ⟨⟨_, Tryz.underlying74, _, rfl, rfl⟩, by kernel_rfl⟩
theorem ty75 : TyI.ok Tryz.prog 75 ⟨(.struct [(0, 2), (1, 73), (2, 73)]), 3, 24, (.agg #[(.int .i64 0), (.map none), (.map none)])⟩ := ⟨⟨_, Tryz.underlying75, _, rfl, rfl⟩, by kernel_rfl⟩
theorem ty76 : TyI.ok Tryz.prog 76 ⟨(.slice 79), 1, 24, (.slice none 0 0)⟩ := ⟨⟨_, Tryz.underlying76, rfl⟩, by kernel_rfl⟩
theorem ty77 : TyI.ok Tryz.prog 77 ⟨(.struct [(0, 76)]), 1, 24, (.agg #[(.slice none 0 0)])⟩ := ⟨⟨_, Tryz.underlying77, _, rfl, rfl⟩, by kernel_rfl⟩
theorem ty78 : TyI.ok Tryz.prog 78 ⟨(.struct [(0, 76)]), 1, 24, (.agg #[(.slice none 0 0)])⟩ := ⟨⟨_, Tryz.underlying78, _, rfl, rfl⟩, by kernel_rfl⟩
theorem ty79 : TyI.ok Tryz.prog 79 ⟨(.ptr 108), 1, 8, (.pointer none)⟩ := ⟨⟨_, Tryz.underlying79, rfl⟩, by kernel_rfl⟩
theorem ty80 : TyI.ok Tryz.prog 80 ⟨.other, 1, 8, .nilFunc⟩ := ⟨⟨_, Tryz.underlying80, rfl⟩, by kernel_rfl⟩
theorem ty81 : TyI.ok Tryz.prog 81 ⟨(.ptr 84), 1, 8, (.pointer none)⟩ := ⟨⟨_, Tryz.underlying81, rfl⟩, by kernel_rfl⟩
theorem ty82 : TyI.ok Tryz.prog 82 ⟨(.slice 123), 1, 24, (.slice none 0 0)⟩ := ⟨⟨_, Tryz.underlying82, rfl⟩, by kernel_rfl⟩
theorem ty83 : TyI.ok Tryz.prog 83 ⟨(.struct [(0, 27), (1, 82)]), 2, 32, (.agg #[(.pointer none), (.slice none 0 0)])⟩ := ⟨⟨_, Tryz.underlying83, _, rfl, rfl⟩, by kernel_rfl⟩
theorem ty84 : TyI.ok Tryz.prog 84 ⟨(.struct [(0, 27), (1, 82)]), 2, 32, (.agg #[(.pointer none), (.slice none 0 0)])⟩ := ⟨⟨_, Tryz.underlying84, _, rfl, rfl⟩, by kernel_rfl⟩
theorem ty85 : TyI.ok Tryz.prog 85 ⟨.other, 1, 8, .nilFunc⟩ := ⟨⟨_, Tryz.underlying85, rfl⟩, by kernel_rfl⟩
theorem ty86 : TyI.ok Tryz.prog 86 ⟨.other, 1, 8, .nilFunc⟩ := ⟨⟨_, Tryz.underlying86, rfl⟩, by kernel_rfl⟩
theorem ty87 : TyI.ok Tryz.prog 87 ⟨.other, 1, 8, .nilFunc⟩ := ⟨⟨_, Tryz.underlying87, rfl⟩, by kernel_rfl⟩
theorem ty88 : TyI.ok Tryz.prog 88 ⟨.other, 1, 8, .nilFunc⟩ := ⟨⟨_, Tryz.underlying88, rfl⟩, by kernel_rfl⟩
theorem ty89 : TyI.ok Tryz.prog 89 ⟨.other, 1, 8, .nilFunc⟩ := ⟨⟨_, Tryz.underlying89, rfl⟩, by kernel_rfl⟩
theorem ty90 : TyI.ok Tryz.prog 90 ⟨.other, 1, 8, .nilFunc⟩ := ⟨⟨_, Tryz.underlying90, rfl⟩, by kernel_rfl⟩
theorem ty91 : TyI.ok Tryz.prog 91 ⟨.other, 1, 8, .nilFunc⟩ := ⟨⟨_, Tryz.underlying91, rfl⟩, by kernel_rfl⟩
theorem ty92 : TyI.ok Tryz.prog 92 ⟨.other, 1, 8, .nilFunc⟩ := ⟨⟨_, Tryz.underlying92, rfl⟩, by kernel_rfl⟩
theorem ty94 : TyI.ok Tryz.prog 94 ⟨.other, 1, 8, .nilFunc⟩ := ⟨⟨_, Tryz.underlying94, rfl⟩, by kernel_rfl⟩
theorem ty95 : TyI.ok Tryz.prog 95 ⟨.other, 1, 8, .nilFunc⟩ := ⟨⟨_, Tryz.underlying95, rfl⟩, by kernel_rfl⟩
theorem ty96 : TyI.ok Tryz.prog 96 ⟨.other, 1, 8, .nilFunc⟩ := ⟨⟨_, Tryz.underlying96, rfl⟩, by kernel_rfl⟩
theorem ty97 : TyI.ok Tryz.prog 97 ⟨.other, 1, 8, .nilFunc⟩ := ⟨⟨_, Tryz.underlying97, rfl⟩, by kernel_rfl⟩
theorem ty98 : TyI.ok Tryz.prog 98 ⟨.other, 1, 8, .nilFunc⟩ := ⟨⟨_, Tryz.underlying98, rfl⟩, by kernel_rfl⟩
theorem ty99 : TyI.ok Tryz.prog 99 ⟨.other, 1, 8, .nilFunc⟩ := ⟨⟨_, Tryz.underlying99, rfl⟩, by kernel_rfl⟩
theorem ty100 : TyI.ok Tryz.prog 100 ⟨.other, 1, 8, .nilFunc⟩ := ⟨⟨_, Tryz.underlying100, rfl⟩, by kernel_rfl⟩
theorem ty101 : TyI.ok Tryz.prog 101 ⟨(.struct [(0, 4), (1, 55)]), 3, 32, (.agg #[(.bool false), (.int .i64 0), (.string ⟨#[]⟩)])⟩ := ⟨⟨_, Tryz.underlying101, _, rfl, rfl⟩, by kernel_rfl⟩
theorem ty102 : TyI.ok Tryz.prog 102 ⟨.other, 1, 8, .nilFunc⟩ := ⟨⟨_, Tryz.underlying102, rfl⟩, by kernel_rfl⟩
theorem ty103 : TyI.ok Tryz.prog 103 ⟨.other, 1, 8, .nilFunc⟩ := ⟨⟨_, Tryz.underlying103, rfl⟩, by kernel_rfl⟩
theorem ty104 : TyI.ok Tryz.prog 104 ⟨.other, 1, 8, .nilFunc⟩ := ⟨⟨_, Tryz.underlying104, rfl⟩, by kernel_rfl⟩
theorem ty105 : TyI.ok Tryz.prog 105 ⟨.other, 1, 8, .nilFunc⟩ := ⟨⟨_, Tryz.underlying105, rfl⟩, by kernel_rfl⟩
theorem ty106 : TyI.ok Tryz.prog 106 ⟨(.slice 113), 1, 24, (.slice none 0 0)⟩ := ⟨⟨_, Tryz.underlying106, rfl⟩, by kernel_rfl⟩
theorem ty107 : TyI.ok Tryz.prog 107 ⟨(.struct [(0, 25), (1, 106)]), 2, 32, (.agg #[(.pointer none), (.slice none 0 0)])⟩ := ⟨⟨_, Tryz.underlying107, _, rfl, rfl⟩, by kernel_rfl⟩
theorem ty108 : TyI.ok Tryz.prog 108 ⟨(.struct [(0, 25), (1, 106)]), 2, 32, (.agg #[(.pointer none), (.slice none 0 0)])⟩ := ⟨⟨_, Tryz.underlying108, _, rfl, rfl⟩, by kernel_rfl⟩
theorem ty109 : TyI.ok Tryz.prog 109 ⟨.other, 1, 8, .nilFunc⟩ := ⟨⟨_, Tryz.underlying109, rfl⟩, by kernel_rfl⟩
theorem ty110 : TyI.ok Tryz.prog 110 ⟨.other, 1, 8, .nilFunc⟩ := ⟨⟨_, Tryz.underlying110, rfl⟩, by kernel_rfl⟩
theorem ty111 : TyI.ok Tryz.prog 111 ⟨.other, 1, 8, .nilFunc⟩ := ⟨⟨_, Tryz.underlying111, rfl⟩, by kernel_rfl⟩
theorem ty112 : TyI.ok Tryz.prog 112 ⟨(.struct [(0, 55), (2, 2), (3, 2)]), 4, 40, (.agg #[(.int .i64 0), (.string ⟨#[]⟩), (.int .i64 0), (.int .i64 0)])⟩ := ⟨⟨_, Tryz.underlying112, _, rfl, rfl⟩, by kernel_rfl⟩
theorem ty113 : TyI.ok Tryz.prog 113 ⟨(.struct [(0, 55), (2, 2), (3, 2)]), 4, 40, (.agg #[(.int .i64 0), (.string ⟨#[]⟩), (.int .i64 0), (.int .i64 0)])⟩ := ⟨⟨_, Tryz.underlying113, _, rfl, rfl⟩, by kernel_rfl⟩
theorem ty114 : TyI.ok Tryz.prog 114 ⟨.other, 1, 8, .nilFunc⟩ := ⟨⟨_, Tryz.underlying114, rfl⟩, by kernel_rfl⟩
theorem ty115 : TyI.ok Tryz.prog 115 ⟨.other, 1, 8, .nilFunc⟩ := ⟨⟨_, Tryz.underlying115, rfl⟩, by kernel_rfl⟩
theorem ty116 : TyI.ok Tryz.prog 116 ⟨.other, 1, 8, .nilFunc⟩ := ⟨⟨_, Tryz.underlying116, rfl⟩, by kernel_rfl⟩
theorem ty117 : TyI.ok Tryz.prog 117 ⟨.other, 1, 8, .nilFunc⟩ := ⟨⟨_, Tryz.underlying117, rfl⟩, by kernel_rfl⟩
theorem ty118 : TyI.ok Tryz.prog 118 ⟨.other, 1, 8, .nilFunc⟩ := ⟨⟨_, Tryz.underlying118, rfl⟩, by kernel_rfl⟩
theorem ty119 : TyI.ok Tryz.prog 119 ⟨.other, 1, 8, .nilFunc⟩ := ⟨⟨_, Tryz.underlying119, rfl⟩, by kernel_rfl⟩
theorem ty120 : TyI.ok Tryz.prog 120 ⟨.other, 1, 8, .nilFunc⟩ := ⟨⟨_, Tryz.underlying120, rfl⟩, by kernel_rfl⟩
theorem ty121 : TyI.ok Tryz.prog 121 ⟨.other, 1, 8, .nilFunc⟩ := ⟨⟨_, Tryz.underlying121, rfl⟩, by kernel_rfl⟩
theorem ty122 : TyI.ok Tryz.prog 122 ⟨(.struct [(0, 55), (2, 2), (3, 2)]), 4, 40, (.agg #[(.int .i64 0), (.string ⟨#[]⟩), (.int .i64 0), (.int .i64 0)])⟩ := ⟨⟨_, Tryz.underlying122, _, rfl, rfl⟩, by kernel_rfl⟩
theorem ty123 : TyI.ok Tryz.prog 123 ⟨(.struct [(0, 55), (2, 2), (3, 2)]), 4, 40, (.agg #[(.int .i64 0), (.string ⟨#[]⟩), (.int .i64 0), (.int .i64 0)])⟩ := ⟨⟨_, Tryz.underlying123, _, rfl, rfl⟩, by kernel_rfl⟩
theorem ty124 : TyI.ok Tryz.prog 124 ⟨.other, 1, 8, .nilFunc⟩ := ⟨⟨_, Tryz.underlying124, rfl⟩, by kernel_rfl⟩
theorem ty125 : TyI.ok Tryz.prog 125 ⟨.other, 1, 8, .nilFunc⟩ := ⟨⟨_, Tryz.underlying125, rfl⟩, by kernel_rfl⟩
theorem ty126 : TyI.ok Tryz.prog 126 ⟨.other, 1, 8, .nilFunc⟩ := ⟨⟨_, Tryz.underlying126, rfl⟩, by kernel_rfl⟩
theorem ty127 : TyI.ok Tryz.prog 127 ⟨.other, 1, 8, .nilFunc⟩ := ⟨⟨_, Tryz.underlying127, rfl⟩, by kernel_rfl⟩
theorem ty128 : TyI.ok Tryz.prog 128 ⟨.other, 1, 8, .nilFunc⟩ := ⟨⟨_, Tryz.underlying128, rfl⟩, by kernel_rfl⟩
theorem ty129 : TyI.ok Tryz.prog 129 ⟨.other, 1, 8, .nilFunc⟩ := ⟨⟨_, Tryz.underlying129, rfl⟩, by kernel_rfl⟩
theorem ty130 : TyI.ok Tryz.prog 130 ⟨.other, 1, 8, .nilFunc⟩ := ⟨⟨_, Tryz.underlying130, rfl⟩, by kernel_rfl⟩
theorem ty131 : TyI.ok Tryz.prog 131 ⟨.other, 1, 8, .nilFunc⟩ := ⟨⟨_, Tryz.underlying131, rfl⟩, by kernel_rfl⟩
theorem ty132 : TyI.ok Tryz.prog 132 ⟨.other, 1, 8, .nilFunc⟩ := ⟨⟨_, Tryz.underlying132, rfl⟩, by kernel_rfl⟩
theorem ty133 : TyI.ok Tryz.prog 133 ⟨.other, 1, 8, .nilFunc⟩ := ⟨⟨_, Tryz.underlying133, rfl⟩, by kernel_rfl⟩
theorem ty134 : TyI.ok Tryz.prog 134 ⟨.other, 1, 8, .nilFunc⟩ := ⟨⟨_, Tryz.underlying134, rfl⟩, by kernel_rfl⟩
theorem ty135 : TyI.ok Tryz.prog 135 ⟨.other, 1, 8, .nilFunc⟩ := ⟨⟨_, Tryz.underlying135, rfl⟩, by kernel_rfl⟩
theorem ty136 : TyI.ok Tryz.prog 136 ⟨(.int .u64), 1, 8, (.int .u64 0)⟩ := ⟨⟨_, Tryz.underlying136, rfl⟩, by kernel_rfl⟩
theorem ty137 : TyI.ok Tryz.prog 137 ⟨.other, 1, 8, .nilFunc⟩ := ⟨⟨_, Tryz.underlying137, rfl⟩, by kernel_rfl⟩
theorem ty138 : TyI.ok Tryz.prog 138 ⟨.other, 1, 8, .nilFunc⟩ := ⟨⟨_, Tryz.underlying138, rfl⟩, by kernel_rfl⟩
theorem ty139 : TyI.ok Tryz.prog 139 ⟨.other, 1, 8, .nilFunc⟩ := ⟨⟨_, Tryz.underlying139, rfl⟩, by kernel_rfl⟩
theorem ty140 : TyI.ok Tryz.prog 140 ⟨.other, 1, 8, .nilFunc⟩ := ⟨⟨_, Tryz.underlying140, rfl⟩, by kernel_rfl⟩
theorem ty141 : TyI.ok Tryz.prog 141 ⟨(.int .i64), 1, 8, (.int .i64 0)⟩ := ⟨⟨_, Tryz.underlying141, rfl⟩, by kernel_rfl⟩
theorem ty143 : TyI.ok Tryz.prog 143 ⟨.other, 1, 8, .nilFunc⟩ := ⟨⟨_, Tryz.underlying143, rfl⟩, by kernel_rfl⟩
theorem ty144 : TyI.ok Tryz.prog 144 ⟨.other, 1, 8, .nilFunc⟩ := ⟨⟨_, Tryz.underlying144, rfl⟩, by kernel_rfl⟩
theorem ty145 : TyI.ok Tryz.prog 145 ⟨.other, 1, 8, .nilFunc⟩ := ⟨⟨_, Tryz.underlying145, rfl⟩, by kernel_rfl⟩
theorem ty146 : TyI.ok Tryz.prog 146 ⟨.other, 1, 8, .nilFunc⟩ := ⟨⟨_, Tryz.underlying146, rfl⟩, by kernel_rfl⟩
theorem ty148 : TyI.ok Tryz.prog 148 ⟨.other, 1, 8, .nilFunc⟩ := ⟨⟨_, Tryz.underlying148, rfl⟩, by kernel_rfl⟩
theorem ty149 : TyI.ok Tryz.prog 149 ⟨.other, 1, 8, .nilFunc⟩ := ⟨⟨_, Tryz.underlying149, rfl⟩, by kernel_rfl⟩
theorem ty150 : TyI.ok Tryz.prog 150 ⟨(.int .u32), 1, 4, (.int .u32 0)⟩ := ⟨⟨_, Tryz.underlying150, rfl⟩, by kernel_rfl⟩
theorem ty151 : TyI.ok Tryz.prog 151 ⟨.other, 1, 8, .nilFunc⟩ := ⟨⟨_, Tryz.underlying151, rfl⟩, by kernel_rfl⟩
theorem ty152 : TyI.ok Tryz.prog 152 ⟨(.int .u64), 1, 8, (.int .u64 0)⟩ := ⟨⟨_, Tryz.underlying152, rfl⟩, by kernel_rfl⟩
theorem ty153 : TyI.ok Tryz.prog 153 ⟨(.int .u64), 1, 8, (.int .u64 0)⟩ := ⟨⟨_, Tryz.underlying153, rfl⟩, by kernel_rfl⟩
theorem ty154 : TyI.ok Tryz.prog 154 ⟨.other, 1, 8, .nilFunc⟩ := ⟨⟨_, Tryz.underlying154, rfl⟩, by kernel_rfl⟩
theorem ty155 : TyI.ok Tryz.prog 155 ⟨.other, 1, 8, .nilFunc⟩ := ⟨⟨_, Tryz.underlying155, rfl⟩, by kernel_rfl⟩
theorem ty156 : TyI.ok Tryz.prog 156 ⟨.other, 1, 8, .nilFunc⟩ := ⟨⟨_, Tryz.underlying156, rfl⟩, by kernel_rfl⟩
theorem ty157 : TyI.ok Tryz.prog 157 ⟨(.ptr 3), 1, 8, (.pointer none)⟩ := ⟨⟨_, Tryz.underlying157, rfl⟩, by kernel_rfl⟩
theorem ty158 : TyI.ok Tryz.prog 158 ⟨.other, 1, 8, .nilFunc⟩ := ⟨⟨_, Tryz.underlying158, rfl⟩, by kernel_rfl⟩
theorem ty159 : TyI.ok Tryz.prog 159 ⟨(.ptr 153), 1, 8, (.pointer none)⟩ := ⟨⟨_, Tryz.underlying159, rfl⟩, by kernel_rfl⟩
theorem ty161 : TyI.ok Tryz.prog 161 ⟨.other, 1, 8, .nilFunc⟩ := ⟨⟨_, Tryz.underlying161, rfl⟩, by kernel_rfl⟩
theorem ty162 : TyI.ok Tryz.prog 162 ⟨.other, 1, 8, .nilFunc⟩ := ⟨⟨_, Tryz.underlying162, rfl⟩, by kernel_rfl⟩
theorem ty163 : TyI.ok Tryz.prog 163 ⟨(.struct [(0, 17), (1, 17), (2, 17), (3, 9)]), 4, 40, (.agg #[(.pointer none), (.pointer none), (.pointer none), (.string ⟨#[]⟩)])⟩ := ⟨⟨_, Tryz.underlying163, _, rfl, rfl⟩, by kernel_rfl⟩
theorem ty164 : TyI.ok Tryz.prog 164 ⟨(.struct [(0, 17), (1, 17), (2, 17), (3, 9)]), 4, 40, (.agg #[(.pointer none), (.pointer none), (.pointer none), (.string ⟨#[]⟩)])⟩ := ⟨⟨_, Tryz.underlying164, _, rfl, rfl⟩, by kernel_rfl⟩
theorem ty165 : TyI.ok Tryz.prog 165 ⟨(.array 0 16), 0, 0, (.agg #[])⟩ := ⟨⟨_, Tryz.underlying165, rfl⟩, by kernel_rfl⟩
theorem ty166 : TyI.ok Tryz.prog 166 ⟨(.struct [(0, 165)]), 0, 0, (.agg #[])⟩ := ⟨⟨_, Tryz.underlying166, _, rfl, rfl⟩, by kernel_rfl⟩
theorem ty167 : TyI.ok Tryz.prog 167 ⟨(.struct [(0, 165)]), 0, 0, (.agg #[])⟩ := ⟨⟨_, Tryz.underlying167, _, rfl, rfl⟩, by kernel_rfl⟩
theorem ty168 : TyI.ok Tryz.prog 168 ⟨(.int .u8), 1, 1, (.int .u8 0)⟩ := ⟨⟨_, Tryz.underlying168, rfl⟩, by kernel_rfl⟩
theorem ty169 : TyI.ok Tryz.prog 169 ⟨(.int .u8), 1, 1, (.int .u8 0)⟩ := ⟨⟨_, Tryz.underlying169, rfl⟩, by kernel_rfl⟩
theorem ty170 : TyI.ok Tryz.prog 170 ⟨.other, 1, 8, .nilFunc⟩ := ⟨⟨_, Tryz.underlying170, rfl⟩, by kernel_rfl⟩
theorem ty171 : TyI.ok Tryz.prog 171 ⟨(.ptr 5), 1, 8, (.pointer none)⟩ := ⟨⟨_, Tryz.underlying171, rfl⟩, by kernel_rfl⟩
theorem ty172 : TyI.ok Tryz.prog 172 ⟨(.int .i32), 1, 4, (.int .i32 0)⟩ := ⟨⟨_, Tryz.underlying172, rfl⟩, by kernel_rfl⟩
theorem ty173 : TyI.ok Tryz.prog 173 ⟨(.int .i32), 1, 4, (.int .i32 0)⟩ := ⟨⟨_, Tryz.underlying173, rfl⟩, by kernel_rfl⟩
theorem ty174 : TyI.ok Tryz.prog 174 ⟨(.struct [(0, 12), (1, 12), (2, 150), (3, 168), (4, 5), (5, 5), (6, 169), (7, 170), (8, 171), (9, 172), (10, 173)]), 11, 48, (.agg #[(.int .u64 0), (.int .u64 0), (.int .u32 0), (.int .u8 0), (.int .u8 0), (.int .u8 0), (.int .u8 0), .nilFunc, (.pointer none), (.int .i32 0), (.int .i32 0)])⟩ := ⟨⟨_, Tryz.underlying174, _, rfl, rfl⟩, by kernel_rfl⟩
theorem ty175 : TyI.ok Tryz.prog 175 ⟨(.struct [(0, 12), (1, 12), (2, 150), (3, 168), (4, 5), (5, 5), (6, 169), (7, 170), (8, 171), (9, 172), (10, 173)]), 11, 48, (.agg #[(.int .u64 0), (.int .u64 0), (.int .u32 0), (.int .u8 0), (.int .u8 0), (.int .u8 0), (.int .u8 0), .nilFunc, (.pointer none), (.int .i32 0), (.int .i32 0)])⟩ := ⟨⟨_, Tryz.underlying175, _, rfl, rfl⟩, by kernel_rfl⟩
theorem tabOk : TabOk Tryz.prog tab := .cons ty1 (.cons ty2 (.cons ty3 (.cons ty4 (.cons ty5 (.cons ty6 (.cons ty7 (.cons ty8 (.cons ty9 (.cons ty10 (.cons ty11 (.cons ty12 (.cons ty13 (.cons ty14 (.cons ty15 (.cons ty16 (.cons ty17 (.cons ty18 (.cons ty19 (.cons ty21 (.cons ty22 (.cons ty23 (.cons ty24 (.cons ty25 (.cons ty26 (.cons ty27 (.cons ty28 (.cons ty29 (.cons ty30 (.cons ty31 (.cons ty32 (.cons ty33 (.cons ty34 (.cons ty35 (.cons ty36 (.cons ty37 (.cons ty38 (.cons ty39 (.cons ty40 (.cons ty41 (.cons ty42 (.cons ty44 (.cons ty45 (.cons ty46 (.cons ty47 (.cons ty48 (.cons ty49 (.cons ty50 (.cons ty51 (.cons ty52 (.cons ty53 (.cons ty54 (.cons ty55 (.cons ty56 (.cons ty57 (.cons ty58 (.cons ty59 (.cons ty61 (.cons ty62 (.cons ty63 (.cons ty64 (.cons ty65 (.cons ty66 (.cons ty67 (.cons ty68 (.cons ty69 (.cons ty70 (.cons ty71 (.cons ty72 (.cons ty73 (.cons ty74 (.cons ty75 (.cons ty76 (.cons ty77 (.cons ty78 (.cons ty79 (.cons ty80 (.cons ty81 (.cons ty82 (.cons ty83 (.cons ty84 (.cons ty85 (.cons ty86 (.cons ty87 (.cons ty88 (.cons ty89 (.cons ty90 (.cons ty91 (.cons ty92 (.cons ty94 (.cons ty95 (.cons ty96 (.cons ty97 (.cons ty98 (.cons ty99 (.cons ty100 (.cons ty101 (.cons ty102 (.cons ty103 (.cons ty104 (.cons ty105 (.cons ty106 (.cons ty107 (.cons ty108 (.cons ty109 (.cons ty110 (.cons ty111 (.cons ty112 (.cons ty113 (.cons ty114 (.cons ty115 (.cons ty116 (.cons ty117 (.cons ty118 (.cons ty119 (.cons ty120 (.cons ty121 (.cons ty122 (.cons ty123 (.cons ty124 (.cons ty125 (.cons ty126 (.cons ty127 (.cons ty128 (.cons ty129 (.cons ty130 (.cons ty131 (.cons ty132 (.cons ty133 (.cons ty134 (.cons ty135 (.cons ty136 (.cons ty137 (.cons ty138 (.cons ty139 (.cons ty140 (.cons ty141 (.cons ty143 (.cons ty144 (.cons ty145 (.cons ty146 (.cons ty148 (.cons ty149 (.cons ty150 (.cons ty151 (.cons ty152 (.cons ty153 (.cons ty154 (.cons ty155 (.cons ty156 (.cons ty157 (.cons ty158 (.cons ty159 (.cons ty161 (.cons ty162 (.cons ty163 (.cons ty164 (.cons ty165 (.cons ty166 (.cons ty167 (.cons ty168 (.cons ty169 (.cons ty170 (.cons ty171 (.cons ty172 (.cons ty173 (.cons ty174 (.cons ty175 (.nil _))))))))))))))))))))))))))))))))))))))))))))))))))))))))))))))))))))))))))))))))))))))))))))))))))))))))))))))))))))))))))))))))))))))))))))))))))))))))))))))))))))))))
theorem mixed : Tryz.prog.follows .mixedOrders = true := by kernel_rfl
end Go.Proofs.YtbhlkninmbafcaaGreat
