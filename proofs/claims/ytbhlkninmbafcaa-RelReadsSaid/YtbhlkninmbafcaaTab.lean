/- The types that the code of this seat names, and that the program says so. By a program of this session (wip/tab.py). -/
import Derived.Test.YtbhlkninmbafcaaRxOps
import Derived.Test.YtbhlkninmbafcaaProg
set_option maxRecDepth 100000
namespace Go.Proofs.Ytbhlkninmbafcaa
open Go.RX Go
def tab : Tab := [
  (1, ⟨.other, 1, 8, .nilFunc⟩),
  (2, ⟨(.int .i64), 1, 8, (.int .i64 0)⟩),
  (3, ⟨(.int .i64), 1, 8, (.int .i64 0)⟩),
  (4, ⟨.bool, 1, 1, (.bool false)⟩),
  (5, ⟨(.int .u8), 1, 1, (.int .u8 0)⟩),
  (6, ⟨(.int .u8), 1, 1, (.int .u8 0)⟩),
  (7, ⟨(.struct [(0, 2), (1, 3), (2, 4), (3, 6)]), 4, 24, (.agg #[(.int .i64 0), (.int .i64 0), (.bool false), (.int .u8 0)])⟩),
  (8, ⟨(.struct [(0, 2), (1, 3), (2, 4), (3, 6)]), 4, 24, (.agg #[(.int .i64 0), (.int .i64 0), (.bool false), (.int .u8 0)])⟩),
  (9, ⟨.str, 1, 16, (.string ⟨#[]⟩)⟩),
  (10, ⟨.str, 1, 16, (.string ⟨#[]⟩)⟩),
  (11, ⟨.str, 1, 16, (.string ⟨#[]⟩)⟩),
  (12, ⟨(.int .u64), 1, 8, (.int .u64 0)⟩),
  (13, ⟨(.struct [(0, 9), (1, 12)]), 2, 24, (.agg #[(.string ⟨#[]⟩), (.int .u64 0)])⟩),
  (14, ⟨(.struct [(0, 9), (1, 12)]), 2, 24, (.agg #[(.string ⟨#[]⟩), (.int .u64 0)])⟩),
  (15, ⟨(.ptr 140), 1, 8, (.pointer none)⟩),
  (16, ⟨(.ptr 143), 1, 8, (.pointer none)⟩),
  (17, ⟨(.ptr 151), 1, 8, (.pointer none)⟩),
  (18, ⟨(.struct [(0, 17)]), 1, 8, (.agg #[(.pointer none)])⟩),
  (19, ⟨(.struct [(0, 17)]), 1, 8, (.agg #[(.pointer none)])⟩),
  (21, ⟨(.int .i32), 1, 4, (.int .i32 0)⟩),
  (22, ⟨(.slice 2), 1, 24, (.slice none 0 0)⟩),
  (23, ⟨.other, 1, 8, .nilFunc⟩),
  (24, ⟨(.slice 26), 1, 24, (.slice none 0 0)⟩),
  (25, ⟨(.struct [(0, 2), (1, 9)]), 2, 24, (.agg #[(.int .i64 0), (.string ⟨#[]⟩)])⟩),
  (26, ⟨(.struct [(0, 2), (1, 9)]), 2, 24, (.agg #[(.int .i64 0), (.string ⟨#[]⟩)])⟩),
  (27, ⟨(.struct [(0, 5), (1, 3), (2, 26)]), 4, 40, (.agg #[(.int .u8 0), (.int .i64 0), (.int .i64 0), (.string ⟨#[]⟩)])⟩),
  (28, ⟨(.struct [(0, 5), (1, 3), (2, 26)]), 4, 40, (.agg #[(.int .u8 0), (.int .i64 0), (.int .i64 0), (.string ⟨#[]⟩)])⟩),
  (29, ⟨.other, 1, 8, .nilFunc⟩),
  (30, ⟨(.slice 66), 1, 24, (.slice none 0 0)⟩),
  (31, ⟨.other, 1, 8, .nilFunc⟩),
  (32, ⟨(.struct [(0, 5), (1, 3), (2, 26)]), 4, 40, (.agg #[(.int .u8 0), (.int .i64 0), (.int .i64 0), (.string ⟨#[]⟩)])⟩),
  (33, ⟨(.slice 67), 1, 24, (.slice none 0 0)⟩),
  (34, ⟨.other, 1, 8, .nilFunc⟩),
  (35, ⟨.other, 1, 8, .nilFunc⟩),
  (36, ⟨(.ptr 70), 1, 8, (.pointer none)⟩),
  (37, ⟨.other, 1, 8, .nilFunc⟩),
  (38, ⟨(.ptr 74), 1, 8, (.pointer none)⟩),
  (39, ⟨.other, 1, 8, .nilFunc⟩),
  (40, ⟨.other, 1, 8, .nilFunc⟩),
  (41, ⟨(.ptr 88), 1, 8, (.pointer none)⟩),
  (42, ⟨.other, 1, 8, .nilFunc⟩),
  (43, ⟨.other, 1, 8, .nilFunc⟩),
  (44, ⟨(.int .i64), 1, 8, (.int .i64 0)⟩),
  (46, ⟨.other, 1, 8, .nilFunc⟩),
  (47, ⟨(.struct [(0, 2), (1, 22)]), 2, 32, (.agg #[(.int .i64 0), (.slice none 0 0)])⟩),
  (48, ⟨(.struct [(0, 2), (1, 22)]), 2, 32, (.agg #[(.int .i64 0), (.slice none 0 0)])⟩),
  (49, ⟨(.struct [(0, 48), (2, 2)]), 3, 40, (.agg #[(.int .i64 0), (.slice none 0 0), (.int .i64 0)])⟩),
  (50, ⟨(.struct [(0, 48), (2, 2)]), 3, 40, (.agg #[(.int .i64 0), (.slice none 0 0), (.int .i64 0)])⟩),
  (51, ⟨.other, 1, 8, .nilFunc⟩),
  (52, ⟨.other, 1, 8, .nilFunc⟩),
  (54, ⟨.other, 1, 8, .nilFunc⟩),
  (55, ⟨.other, 1, 8, .nilFunc⟩),
  (56, ⟨(.slice 5), 1, 24, (.slice none 0 0)⟩),
  (57, ⟨.other, 1, 8, .nilFunc⟩),
  (58, ⟨(.slice 61), 1, 24, (.slice none 0 0)⟩),
  (59, ⟨.other, 1, 8, .nilFunc⟩),
  (60, ⟨(.struct [(0, 5), (1, 5), (2, 5), (3, 3), (4, 2), (5, 9)]), 6, 40, (.agg #[(.int .u8 0), (.int .u8 0), (.int .u8 0), (.int .i64 0), (.int .i64 0), (.string ⟨#[]⟩)])⟩),
  (61, ⟨(.struct [(0, 5), (1, 5), (2, 5), (3, 3), (4, 2), (5, 9)]), 6, 40, (.agg #[(.int .u8 0), (.int .u8 0), (.int .u8 0), (.int .i64 0), (.int .i64 0), (.string ⟨#[]⟩)])⟩),
  (62, ⟨.other, 1, 8, .nilFunc⟩),
  (63, ⟨.other, 1, 8, .nilFunc⟩),
  (64, ⟨.other, 1, 8, .nilFunc⟩),
  (65, ⟨(.struct [(0, 4), (1, 26)]), 3, 32, (.agg #[(.bool false), (.int .i64 0), (.string ⟨#[]⟩)])⟩),
  (66, ⟨(.struct [(0, 4), (1, 26)]), 3, 32, (.agg #[(.bool false), (.int .i64 0), (.string ⟨#[]⟩)])⟩),
  (67, ⟨(.struct [(0, 4), (1, 26)]), 3, 32, (.agg #[(.bool false), (.int .i64 0), (.string ⟨#[]⟩)])⟩),
  (68, ⟨(.slice 41), 1, 24, (.slice none 0 0)⟩),
  (69, ⟨(.struct [(0, 68)]), 1, 24, (.agg #[(.slice none 0 0)])⟩),
  (70, ⟨(.struct [(0, 68)]), 1, 24, (.agg #[(.slice none 0 0)])⟩),
  (71, ⟨.other, 1, 8, .nilFunc⟩),
  (72, ⟨(.map 2 4), 1, 8, (.map none)⟩),
  (73, ⟨(.struct [(0, 2), (1, 72), (2, 72)]), 3, 24, (.agg #[(.int .i64 0), (.map none), (.map none)])⟩),
  (74, ⟨(.struct [(0, 2), (1, 72), (2, 72)]), 3, 24, (.agg #[(.int .i64 0), (.map none), (.map none)])⟩),
  (75, ⟨.other, 1, 8, .nilFunc⟩),
  (76, ⟨.other, 1, 8, .nilFunc⟩),
  (77, ⟨.other, 1, 8, .nilFunc⟩),
  (78, ⟨.other, 1, 8, .nilFunc⟩),
  (80, ⟨.other, 1, 8, .nilFunc⟩),
  (81, ⟨.other, 1, 8, .nilFunc⟩),
  (82, ⟨.other, 1, 8, .nilFunc⟩),
  (83, ⟨.other, 1, 8, .nilFunc⟩),
  (84, ⟨.other, 1, 8, .nilFunc⟩),
  (85, ⟨.other, 1, 8, .nilFunc⟩),
  (86, ⟨(.slice 93), 1, 24, (.slice none 0 0)⟩),
  (87, ⟨(.struct [(0, 38), (1, 86)]), 2, 32, (.agg #[(.pointer none), (.slice none 0 0)])⟩),
  (88, ⟨(.struct [(0, 38), (1, 86)]), 2, 32, (.agg #[(.pointer none), (.slice none 0 0)])⟩),
  (89, ⟨.other, 1, 8, .nilFunc⟩),
  (90, ⟨.other, 1, 8, .nilFunc⟩),
  (91, ⟨.other, 1, 8, .nilFunc⟩),
  (92, ⟨(.struct [(0, 26), (2, 2), (3, 2)]), 4, 40, (.agg #[(.int .i64 0), (.string ⟨#[]⟩), (.int .i64 0), (.int .i64 0)])⟩),
  (93, ⟨(.struct [(0, 26), (2, 2), (3, 2)]), 4, 40, (.agg #[(.int .i64 0), (.string ⟨#[]⟩), (.int .i64 0), (.int .i64 0)])⟩),
  (94, ⟨.other, 1, 8, .nilFunc⟩),
  (95, ⟨.other, 1, 8, .nilFunc⟩),
  (96, ⟨.other, 1, 8, .nilFunc⟩),
  (97, ⟨.other, 1, 8, .nilFunc⟩),
  (98, ⟨.other, 1, 8, .nilFunc⟩),
  (99, ⟨.other, 1, 8, .nilFunc⟩),
  (100, ⟨.other, 1, 8, .nilFunc⟩),
  (101, ⟨.other, 1, 8, .nilFunc⟩),
  (102, ⟨.other, 1, 8, .nilFunc⟩),
  (103, ⟨.other, 1, 8, .nilFunc⟩),
  (104, ⟨.other, 1, 8, .nilFunc⟩),
  (105, ⟨.other, 1, 8, .nilFunc⟩),
  (106, ⟨.other, 1, 8, .nilFunc⟩),
  (107, ⟨.other, 1, 8, .nilFunc⟩),
  (108, ⟨.other, 1, 8, .nilFunc⟩),
  (109, ⟨.other, 1, 8, .nilFunc⟩),
  (110, ⟨.other, 1, 8, .nilFunc⟩),
  (111, ⟨.other, 1, 8, .nilFunc⟩),
  (112, ⟨(.int .u64), 1, 8, (.int .u64 0)⟩),
  (113, ⟨.other, 1, 8, .nilFunc⟩),
  (114, ⟨.other, 1, 8, .nilFunc⟩),
  (115, ⟨.other, 1, 8, .nilFunc⟩),
  (116, ⟨.other, 1, 8, .nilFunc⟩),
  (117, ⟨(.int .i64), 1, 8, (.int .i64 0)⟩),
  (119, ⟨.other, 1, 8, .nilFunc⟩),
  (120, ⟨.other, 1, 8, .nilFunc⟩),
  (121, ⟨.other, 1, 8, .nilFunc⟩),
  (122, ⟨.other, 1, 8, .nilFunc⟩),
  (124, ⟨.other, 1, 8, .nilFunc⟩),
  (125, ⟨.other, 1, 8, .nilFunc⟩),
  (126, ⟨(.int .u32), 1, 4, (.int .u32 0)⟩),
  (127, ⟨.other, 1, 8, .nilFunc⟩),
  (128, ⟨(.int .u64), 1, 8, (.int .u64 0)⟩),
  (129, ⟨(.int .u64), 1, 8, (.int .u64 0)⟩),
  (130, ⟨.other, 1, 8, .nilFunc⟩),
  (131, ⟨.other, 1, 8, .nilFunc⟩),
  (132, ⟨.other, 1, 8, .nilFunc⟩),
  (133, ⟨(.ptr 3), 1, 8, (.pointer none)⟩),
  (134, ⟨.other, 1, 8, .nilFunc⟩),
  (135, ⟨(.ptr 129), 1, 8, (.pointer none)⟩),
  (137, ⟨.other, 1, 8, .nilFunc⟩),
  (138, ⟨.other, 1, 8, .nilFunc⟩),
  (139, ⟨(.struct [(0, 17), (1, 17), (2, 17), (3, 9)]), 4, 40, (.agg #[(.pointer none), (.pointer none), (.pointer none), (.string ⟨#[]⟩)])⟩),
  (140, ⟨(.struct [(0, 17), (1, 17), (2, 17), (3, 9)]), 4, 40, (.agg #[(.pointer none), (.pointer none), (.pointer none), (.string ⟨#[]⟩)])⟩),
  (141, ⟨(.array 0 16), 0, 0, (.agg #[])⟩),
  (142, ⟨(.struct [(0, 141)]), 0, 0, (.agg #[])⟩),
  (143, ⟨(.struct [(0, 141)]), 0, 0, (.agg #[])⟩),
  (144, ⟨(.int .u8), 1, 1, (.int .u8 0)⟩),
  (145, ⟨(.int .u8), 1, 1, (.int .u8 0)⟩),
  (146, ⟨.other, 1, 8, .nilFunc⟩),
  (147, ⟨(.ptr 5), 1, 8, (.pointer none)⟩),
  (148, ⟨(.int .i32), 1, 4, (.int .i32 0)⟩),
  (149, ⟨(.int .i32), 1, 4, (.int .i32 0)⟩),
  (150, ⟨(.struct [(0, 12), (1, 12), (2, 126), (3, 144), (4, 5), (5, 5), (6, 145), (7, 146), (8, 147), (9, 148), (10, 149)]), 11, 48, (.agg #[(.int .u64 0), (.int .u64 0), (.int .u32 0), (.int .u8 0), (.int .u8 0), (.int .u8 0), (.int .u8 0), .nilFunc, (.pointer none), (.int .i32 0), (.int .i32 0)])⟩),
  (151, ⟨(.struct [(0, 12), (1, 12), (2, 126), (3, 144), (4, 5), (5, 5), (6, 145), (7, 146), (8, 147), (9, 148), (10, 149)]), 11, 48, (.agg #[(.int .u64 0), (.int .u64 0), (.int .u32 0), (.int .u8 0), (.int .u8 0), (.int .u8 0), (.int .u8 0), .nilFunc, (.pointer none), (.int .i32 0), (.int .i32 0)])⟩),
  (152, ⟨.other, 1, 8, .nilFunc⟩)]
theorem ty1 : TyI.ok Try.prog 1 ⟨.other, 1, 8, .nilFunc⟩ := ⟨⟨_, Try.underlying1, rfl⟩, by kernel_rfl⟩
theorem ty2 : TyI.ok Try.prog 2 ⟨(.int .i64), 1, 8, (.int .i64 0)⟩ := ⟨⟨_, Try.underlying2, rfl⟩, by kernel_rfl⟩
theorem ty3 : TyI.ok Try.prog 3 ⟨(.int .i64), 1, 8, (.int .i64 0)⟩ := ⟨⟨_, Try.underlying3, rfl⟩, by kernel_rfl⟩
theorem ty4 : TyI.ok Try.prog 4 ⟨.bool, 1, 1, (.bool false)⟩ := ⟨⟨_, Try.underlying4, rfl⟩, by kernel_rfl⟩
theorem ty5 : TyI.ok Try.prog 5 ⟨(.int .u8), 1, 1, (.int .u8 0)⟩ := ⟨⟨_, Try.underlying5, rfl⟩, by kernel_rfl⟩
theorem ty6 : TyI.ok Try.prog 6 ⟨(.int .u8), 1, 1, (.int .u8 0)⟩ := ⟨⟨_, Try.underlying6, rfl⟩, by kernel_rfl⟩
theorem ty7 : TyI.ok Try.prog 7 ⟨(.struct [(0, 2), (1, 3), (2, 4), (3, 6)]), 4, 24, (.agg #[(.int .i64 0), (.int .i64 0), (.bool false), (.int .u8 0)])⟩ := ⟨⟨_, Try.underlying7, _, rfl, rfl⟩, by kernel_rfl⟩
theorem ty8 : TyI.ok Try.prog 8 ⟨(.struct [(0, 2), (1, 3), (2, 4), (3, 6)]), 4, 24, (.agg #[(.int .i64 0), (.int .i64 0), (.bool false), (.int .u8 0)])⟩ := ⟨⟨_, Try.underlying8, _, rfl, rfl⟩, by kernel_rfl⟩
theorem ty9 : TyI.ok Try.prog 9 ⟨.str, 1, 16, (.string ⟨#[]⟩)⟩ := ⟨⟨_, Try.underlying9, rfl⟩, by kernel_rfl⟩
theorem ty10 : TyI.ok Try.prog 10 ⟨.str, 1, 16, (.string ⟨#[]⟩)⟩ := ⟨⟨_, Try.underlying10, rfl⟩, by kernel_rfl⟩
theorem ty11 : TyI.ok Try.prog 11 ⟨.str, 1, 16, (.string ⟨#[]⟩)⟩ := ⟨⟨_, Try.underlying11, rfl⟩, by kernel_rfl⟩
theorem ty12 : TyI.ok Try.prog 12 ⟨(.int .u64), 1, 8, (.int .u64 0)⟩ := ⟨⟨_, Try.underlying12, rfl⟩, by kernel_rfl⟩
theorem ty13 : TyI.ok Try.prog 13 ⟨(.struct [(0, 9), (1, 12)]), 2, 24, (.agg #[(.string ⟨#[]⟩), (.int .u64 0)])⟩ := ⟨⟨_, Try.underlying13, _, rfl, rfl⟩, by kernel_rfl⟩
theorem ty14 : TyI.ok Try.prog 14 ⟨(.struct [(0, 9), (1, 12)]), 2, 24, (.agg #[(.string ⟨#[]⟩), (.int .u64 0)])⟩ := ⟨⟨_, Try.underlying14, _, rfl, rfl⟩, by kernel_rfl⟩
theorem ty15 : TyI.ok Try.prog 15 ⟨(.ptr 140), 1, 8, (.pointer none)⟩ := ⟨⟨_, Try.underlying15, rfl⟩, by kernel_rfl⟩
theorem ty16 : TyI.ok Try.prog 16 ⟨(.ptr 143), 1, 8, (.pointer none)⟩ := ⟨⟨_, Try.underlying16, rfl⟩, by kernel_rfl⟩
theorem ty17 : TyI.ok Try.prog 17 ⟨(.ptr 151), 1, 8, (.pointer none)⟩ := ⟨⟨_, Try.underlying17, rfl⟩, by kernel_rfl⟩
theorem ty18 : TyI.ok Try.prog 18 ⟨(.struct [(0, 17)]), 1, 8, (.agg #[(.pointer none)])⟩ := ⟨⟨_, Try.underlying18, _, rfl, rfl⟩, by kernel_rfl⟩
theorem ty19 : TyI.ok Try.prog 19 ⟨(.struct [(0, 17)]), 1, 8, (.agg #[(.pointer none)])⟩ := ⟨⟨_, Try.underlying19, _, rfl, rfl⟩, by kernel_rfl⟩
theorem ty21 : TyI.ok Try.prog 21 ⟨(.int .i32), 1, 4, (.int .i32 0)⟩ := ⟨⟨_, Try.underlying21, rfl⟩, by kernel_rfl⟩
theorem ty22 : TyI.ok Try.prog 22 ⟨(.slice 2), 1, 24, (.slice none 0 0)⟩ := ⟨⟨_, Try.underlying22, rfl⟩, by kernel_rfl⟩
theorem ty23 : TyI.ok Try.prog 23 ⟨.other, 1, 8, .nilFunc⟩ := ⟨⟨_, Try.underlying23, rfl⟩, by kernel_rfl⟩
theorem ty24 : TyI.ok Try.prog 24 ⟨(.slice 26), 1, 24, (.slice none 0 0)⟩ := ⟨⟨_, Try.underlying24, rfl⟩, by kernel_rfl⟩
theorem ty25 : TyI.ok Try.prog 25 ⟨(.struct [(0, 2), (1, 9)]), 2, 24, (.agg #[(.int .i64 0), (.string ⟨#[]⟩)])⟩ := ⟨⟨_, Try.underlying25, _, rfl, rfl⟩, by kernel_rfl⟩
theorem ty26 : TyI.ok Try.prog 26 ⟨(.struct [(0, 2), (1, 9)]), 2, 24, (.agg #[(.int .i64 0), (.string ⟨#[]⟩)])⟩ := ⟨⟨_, Try.underlying26, _, rfl, rfl⟩, by kernel_rfl⟩
theorem ty27 : TyI.ok Try.prog 27 ⟨(.struct [(0, 5), (1, 3), (2, 26)]), 4, 40, (.agg #[(.int .u8 0), (.int .i64 0), (.int .i64 0), (.string ⟨#[]⟩)])⟩ := ⟨⟨_, Try.underlying27, _, rfl, rfl⟩, by kernel_rfl⟩
theorem ty28 : TyI.ok Try.prog 28 ⟨(.struct [(0, 5), (1, 3), (2, 26)]), 4, 40, (.agg #[(.int .u8 0), (.int .i64 0), (.int .i64 0), (.string ⟨#[]⟩)])⟩ := ⟨⟨_, Try.underlying28, _, rfl, rfl⟩, by kernel_rfl⟩
theorem ty29 : TyI.ok Try.prog 29 ⟨.other, 1, 8, .nilFunc⟩ := ⟨⟨_, Try.underlying29, rfl⟩, by kernel_rfl⟩
theorem ty30 : TyI.ok Try.prog 30 ⟨(.slice 66), 1, 24, (.slice none 0 0)⟩ := ⟨⟨_, Try.underlying30, rfl⟩, by kernel_rfl⟩
theorem ty31 : TyI.ok Try.prog 31 ⟨.other, 1, 8, .nilFunc⟩ := ⟨⟨_, Try.underlying31, rfl⟩, by kernel_rfl⟩
theorem ty32 : TyI.ok Try.prog 32 ⟨(.struct [(0, 5), (1, 3), (2, 26)]), 4, 40, (.agg #[(.int .u8 0), (.int .i64 0), (.int .i64 0), (.string ⟨#[]⟩)])⟩ := ⟨⟨_, Try.underlying32, _, rfl, rfl⟩, by kernel_rfl⟩
theorem ty33 : TyI.ok Try.prog 33 ⟨(.slice 67), 1, 24, (.slice none 0 0)⟩ := ⟨⟨_, Try.underlying33, rfl⟩, by kernel_rfl⟩
theorem ty34 : TyI.ok Try.prog 34 ⟨.other, 1, 8, .nilFunc⟩ := ⟨⟨_, Try.underlying34, rfl⟩, by kernel_rfl⟩
theorem ty35 : TyI.ok Try.prog 35 ⟨.other, 1, 8, .nilFunc⟩ := ⟨⟨_, Try.underlying35, rfl⟩, by kernel_rfl⟩
theorem ty36 : TyI.ok Try.prog 36 ⟨(.ptr 70), 1, 8, (.pointer none)⟩ := ⟨⟨_, Try.underlying36, rfl⟩, by kernel_rfl⟩
theorem ty37 : TyI.ok Try.prog 37 ⟨.other, 1, 8, .nilFunc⟩ := ⟨⟨_, Try.underlying37, rfl⟩, by kernel_rfl⟩
theorem ty38 : TyI.ok Try.prog 38 ⟨(.ptr 74), 1, 8, (.pointer none)⟩ := ⟨⟨_, Try.underlying38, rfl⟩, by kernel_rfl⟩
theorem ty39 : TyI.ok Try.prog 39 ⟨.other, 1, 8, .nilFunc⟩ := ⟨⟨_, Try.underlying39, rfl⟩, by kernel_rfl⟩
theorem ty40 : TyI.ok Try.prog 40 ⟨.other, 1, 8, .nilFunc⟩ := ⟨⟨_, Try.underlying40, rfl⟩, by kernel_rfl⟩
theorem ty41 : TyI.ok Try.prog 41 ⟨(.ptr 88), 1, 8, (.pointer none)⟩ := ⟨⟨_, Try.underlying41, rfl⟩, by kernel_rfl⟩
theorem ty42 : TyI.ok Try.prog 42 ⟨.other, 1, 8, .nilFunc⟩ := ⟨⟨_, Try.underlying42, rfl⟩, by kernel_rfl⟩
theorem ty43 : TyI.ok Try.prog 43 ⟨.other, 1, 8, .nilFunc⟩ := ⟨⟨_, Try.underlying43, rfl⟩, by kernel_rfl⟩
theorem ty44 : TyI.ok Try.prog 44 ⟨(.int .i64), 1, 8, (.int .i64 0)⟩ := ⟨⟨_, Try.underlying44, rfl⟩, by kernel_rfl⟩
theorem ty46 : TyI.ok Try.prog 46 ⟨.other, 1, 8, .nilFunc⟩ := ⟨⟨_, Try.underlying46, rfl⟩, by kernel_rfl⟩
theorem ty47 : TyI.ok Try.prog 47 ⟨(.struct [(0, 2), (1, 22)]), 2, 32, (.agg #[(.int .i64 0), (.slice none 0 0)])⟩ := ⟨⟨_, Try.underlying47, _, rfl, rfl⟩, by kernel_rfl⟩
theorem ty48 : TyI.ok Try.prog 48 ⟨(.struct [(0, 2), (1, 22)]), 2, 32, (.agg #[(.int .i64 0), (.slice none 0 0)])⟩ := ⟨⟨_, Try.underlying48, _, rfl, rfl⟩, by kernel_rfl⟩
theorem ty49 : TyI.ok Try.prog 49 ⟨(.struct [(0, 48), (2, 2)]), 3, 40, (.agg #[(.int .i64 0), (.slice none 0 0), (.int .i64 0)])⟩ := ⟨⟨_, Try.underlying49, _, rfl, rfl⟩, by kernel_rfl⟩
theorem ty50 : TyI.ok Try.prog 50 ⟨(.struct [(0, 48), (2, 2)]), 3, 40, (.agg #[(.int .i64 0), (.slice none 0 0), (.int .i64 0)])⟩ := ⟨⟨_, Try.underlying50, _, rfl, rfl⟩, by kernel_rfl⟩
theorem ty51 : TyI.ok Try.prog 51 ⟨.other, 1, 8, .nilFunc⟩ := ⟨⟨_, Try.underlying51, rfl⟩, by kernel_rfl⟩
theorem ty52 : TyI.ok Try.prog 52 ⟨.other, 1, 8, .nilFunc⟩ := ⟨⟨_, Try.underlying52, rfl⟩, by kernel_rfl⟩
theorem ty54 : TyI.ok Try.prog 54 ⟨.other, 1, 8, .nilFunc⟩ := ⟨⟨_, Try.underlying54, rfl⟩, by kernel_rfl⟩
theorem ty55 : TyI.ok Try.prog 55 ⟨.other, 1, 8, .nilFunc⟩ := ⟨⟨_, Try.underlying55, rfl⟩, by kernel_rfl⟩
theorem ty56 : TyI.ok Try.prog 56 ⟨(.slice 5), 1, 24, (.slice none 0 0)⟩ := ⟨⟨_, Try.underlying56, rfl⟩, by kernel_rfl⟩
theorem ty57 : TyI.ok Try.prog 57 ⟨.other, 1, 8, .nilFunc⟩ := ⟨⟨_, Try.underlying57, rfl⟩, by kernel_rfl⟩
theorem ty58 : TyI.ok Try.prog 58 ⟨(.slice 61), 1, 24, (.slice none 0 0)⟩ := ⟨⟨_, Try.underlying58, rfl⟩, by kernel_rfl⟩
theorem ty59 : TyI.ok Try.prog 59 ⟨.other, 1, 8, .nilFunc⟩ := ⟨⟨_, Try.underlying59, rfl⟩, by kernel_rfl⟩
theorem ty60 : TyI.ok Try.prog 60 ⟨(.struct [(0, 5), (1, 5), (2, 5), (3, 3), (4, 2), (5, 9)]), 6, 40, (.agg #[(.int .u8 0), (.int .u8 0), (.int .u8 0), (.int .i64 0), (.int .i64 0), (.string ⟨#[]⟩)])⟩ := ⟨⟨_, Try.underlying60, _, rfl, rfl⟩, by kernel_rfl⟩
theorem ty61 : TyI.ok Try.prog 61 ⟨(.struct [(0, 5), (1, 5), (2, 5), (3, 3), (4, 2), (5, 9)]), 6, 40, (.agg #[(.int .u8 0), (.int .u8 0), (.int .u8 0), (.int .i64 0), (.int .i64 0), (.string ⟨#[]⟩)])⟩ := ⟨⟨_, Try.underlying61, _, rfl, rfl⟩, by kernel_rfl⟩
theorem ty62 : TyI.ok Try.prog 62 ⟨.other, 1, 8, .nilFunc⟩ := ⟨⟨_, Try.underlying62, rfl⟩, by kernel_rfl⟩
theorem ty63 : TyI.ok Try.prog 63 ⟨.other, 1, 8, .nilFunc⟩ := ⟨⟨_, Try.underlying63, rfl⟩, by kernel_rfl⟩
theorem ty64 : TyI.ok Try.prog 64 ⟨.other, 1, 8, .nilFunc⟩ := ⟨⟨_, Try.underlying64, rfl⟩, by kernel_rfl⟩
theorem ty65 : TyI.ok Try.prog 65 ⟨(.struct [(0, 4), (1, 26)]), 3, 32, (.agg #[(.bool false), (.int .i64 0), (.string ⟨#[]⟩)])⟩ := ⟨⟨_, Try.underlying65, _, rfl, rfl⟩, by kernel_rfl⟩
theorem ty66 : TyI.ok Try.prog 66 ⟨(.struct [(0, 4), (1, 26)]), 3, 32, (.agg #[(.bool false), (.int .i64 0), (.string ⟨#[]⟩)])⟩ := ⟨⟨_, Try.underlying66, _, rfl, rfl⟩, by kernel_rfl⟩
theorem ty67 : TyI.ok Try.prog 67 ⟨(.struct [(0, 4), (1, 26)]), 3, 32, (.agg #[(.bool false), (.int .i64 0), (.string ⟨#[]⟩)])⟩ := ⟨⟨_, Try.underlying67, _, rfl, rfl⟩, by kernel_rfl⟩
theorem ty68 : TyI.ok Try.prog 68 ⟨(.slice 41), 1, 24, (.slice none 0 0)⟩ := ⟨⟨_, Try.underlying68, rfl⟩, by kernel_rfl⟩
theorem ty69 : TyI.ok Try.prog 69 ⟨(.struct [(0, 68)]), 1, 24, (.agg #[(.slice none 0 0)])⟩ := ⟨⟨_, Try.underlying69, _, rfl, rfl⟩, by kernel_rfl⟩
theorem ty70 : TyI.ok Try.prog 70 ⟨(.struct [(0, 68)]), 1, 24, (.agg #[(.slice none 0 0)])⟩ := ⟨⟨_, Try.underlying70, _, rfl, rfl⟩, by kernel_rfl⟩
theorem ty71 : TyI.ok Try.prog 71 ⟨.other, 1, 8, .nilFunc⟩ := ⟨⟨_, Try.underlying71, rfl⟩, by kernel_rfl⟩
theorem ty72 : TyI.ok Try.prog 72 ⟨(.map 2 4), 1, 8, (.map none)⟩ := ⟨⟨_, Try.underlying72, rfl⟩, by kernel_rfl⟩
theorem ty73 : TyI.ok Try.prog 73 ⟨(.struct [(0, 2), (1, 72), (2, 72)]), 3, 24, (.agg #[(.int .i64 0), (.map none), (.map none)])⟩ := ⟨⟨_, Try.underlying73, _, rfl, rfl⟩, by kernel_rfl⟩
theorem ty74 : TyI.ok Try.prog 74 ⟨(.struct [(0, 2), (1, 72), (2, 72)]), 3, 24, (.agg #[(.int .i64 0), (.map none), (.map none)])⟩ := ⟨⟨_, Try.underlying74, _, rfl, rfl⟩, by kernel_rfl⟩
theorem ty75 : TyI.ok Try.prog 75 ⟨.other, 1, 8, .nilFunc⟩ := ⟨⟨_, Try.underlying75, rfl⟩, by kernel_rfl⟩
theorem ty76 : TyI.ok Try.prog 76 ⟨.other, 1, 8, .nilFunc⟩ := ⟨⟨_, Try.underlying76, rfl⟩, by kernel_rfl⟩
theorem ty77 : TyI.ok Try.prog 77 ⟨.other, 1, 8, .nilFunc⟩ := ⟨⟨_, Try.underlying77, rfl⟩, by kernel_rfl⟩
theorem ty78 : TyI.ok Try.prog 78 ⟨.other, 1, 8, .nilFunc⟩ := ⟨⟨_, Try.underlying78, rfl⟩, by kernel_rfl⟩
theorem ty80 : TyI.ok Try.prog 80 ⟨.other, 1, 8, .nilFunc⟩ := ⟨⟨_, Try.underlying80, rfl⟩, by kernel_rfl⟩
theorem ty81 : TyI.ok Try.prog 81 ⟨.other, 1, 8, .nilFunc⟩ := ⟨⟨_, Try.underlying81, rfl⟩, by kernel_rfl⟩
theorem ty82 : TyI.ok Try.prog 82 ⟨.other, 1, 8, .nilFunc⟩ := ⟨⟨_, Try.underlying82, rfl⟩, by kernel_rfl⟩
theorem ty83 : TyI.ok Try.prog 83 ⟨.other, 1, 8, .nilFunc⟩ := ⟨⟨_, Try.underlying83, rfl⟩, by kernel_rfl⟩
theorem ty84 : TyI.ok Try.prog 84 ⟨.other, 1, 8, .nilFunc⟩ := ⟨⟨_, Try.underlying84, rfl⟩, by kernel_rfl⟩
theorem ty85 : TyI.ok Try.prog 85 ⟨.other, 1, 8, .nilFunc⟩ := ⟨⟨_, Try.underlying85, rfl⟩, by kernel_rfl⟩
theorem ty86 : TyI.ok Try.prog 86 ⟨(.slice 93), 1, 24, (.slice none 0 0)⟩ := ⟨⟨_, Try.underlying86, rfl⟩, by kernel_rfl⟩
theorem ty87 : TyI.ok Try.prog 87 ⟨(.struct [(0, 38), (1, 86)]), 2, 32, (.agg #[(.pointer none), (.slice none 0 0)])⟩ := ⟨⟨_, Try.underlying87, _, rfl, rfl⟩, by kernel_rfl⟩
theorem ty88 : TyI.ok Try.prog 88 ⟨(.struct [(0, 38), (1, 86)]), 2, 32, (.agg #[(.pointer none), (.slice none 0 0)])⟩ := ⟨⟨_, Try.underlying88, _, rfl, rfl⟩, by kernel_rfl⟩
theorem ty89 : TyI.ok Try.prog 89 ⟨.other, 1, 8, .nilFunc⟩ := ⟨⟨_, Try.underlying89, rfl⟩, by kernel_rfl⟩
theorem ty90 : TyI.ok Try.prog 90 ⟨.other, 1, 8, .nilFunc⟩ := ⟨⟨_, Try.underlying90, rfl⟩, by kernel_rfl⟩
theorem ty91 : TyI.ok Try.prog 91 ⟨.other, 1, 8, .nilFunc⟩ := ⟨⟨_, Try.underlying91, rfl⟩, by kernel_rfl⟩
theorem ty92 : TyI.ok Try.prog 92 ⟨(.struct [(0, 26), (2, 2), (3, 2)]), 4, 40, (.agg #[(.int .i64 0), (.string ⟨#[]⟩), (.int .i64 0), (.int .i64 0)])⟩ := ⟨⟨_, Try.underlying92, _, rfl, rfl⟩, by kernel_rfl⟩
theorem ty93 : TyI.ok Try.prog 93 ⟨(.struct [(0, 26), (2, 2), (3, 2)]), 4, 40, (.agg #[(.int .i64 0), (.string ⟨#[]⟩), (.int .i64 0), (.int .i64 0)])⟩ := ⟨⟨_, Try.underlying93, _, rfl, rfl⟩, by kernel_rfl⟩
theorem ty94 : TyI.ok Try.prog 94 ⟨.other, 1, 8, .nilFunc⟩ := ⟨⟨_, Try.underlying94, rfl⟩, by kernel_rfl⟩
theorem ty95 : TyI.ok Try.prog 95 ⟨.other, 1, 8, .nilFunc⟩ := ⟨⟨_, Try.underlying95, rfl⟩, by kernel_rfl⟩
theorem ty96 : TyI.ok Try.prog 96 ⟨.other, 1, 8, .nilFunc⟩ := ⟨⟨_, Try.underlying96, rfl⟩, by kernel_rfl⟩
theorem ty97 : TyI.ok Try.prog 97 ⟨.other, 1, 8, .nilFunc⟩ := ⟨⟨_, Try.underlying97, rfl⟩, by kernel_rfl⟩
theorem ty98 : TyI.ok Try.prog 98 ⟨.other, 1, 8, .nilFunc⟩ := ⟨⟨_, Try.underlying98, rfl⟩, by kernel_rfl⟩
theorem ty99 : TyI.ok Try.prog 99 ⟨.other, 1, 8, .nilFunc⟩ := ⟨⟨_, Try.underlying99, rfl⟩, by kernel_rfl⟩
theorem ty100 : TyI.ok Try.prog 100 ⟨.other, 1, 8, .nilFunc⟩ := ⟨⟨_, Try.underlying100, rfl⟩, by kernel_rfl⟩
theorem ty101 : TyI.ok Try.prog 101 ⟨.other, 1, 8, .nilFunc⟩ := ⟨⟨_, Try.underlying101, rfl⟩, by kernel_rfl⟩
theorem ty102 : TyI.ok Try.prog 102 ⟨.other, 1, 8, .nilFunc⟩ := ⟨⟨_, Try.underlying102, rfl⟩, by kernel_rfl⟩
theorem ty103 : TyI.ok Try.prog 103 ⟨.other, 1, 8, .nilFunc⟩ := ⟨⟨_, Try.underlying103, rfl⟩, by kernel_rfl⟩
theorem ty104 : TyI.ok Try.prog 104 ⟨.other, 1, 8, .nilFunc⟩ := ⟨⟨_, Try.underlying104, rfl⟩, by kernel_rfl⟩
theorem ty105 : TyI.ok Try.prog 105 ⟨.other, 1, 8, .nilFunc⟩ := ⟨⟨_, Try.underlying105, rfl⟩, by kernel_rfl⟩
theorem ty106 : TyI.ok Try.prog 106 ⟨.other, 1, 8, .nilFunc⟩ := ⟨⟨_, Try.underlying106, rfl⟩, by kernel_rfl⟩
theorem ty107 : TyI.ok Try.prog 107 ⟨.other, 1, 8, .nilFunc⟩ := ⟨⟨_, Try.underlying107, rfl⟩, by kernel_rfl⟩
theorem ty108 : TyI.ok Try.prog 108 ⟨.other, 1, 8, .nilFunc⟩ := ⟨⟨_, Try.underlying108, rfl⟩, by kernel_rfl⟩
theorem ty109 : TyI.ok Try.prog 109 ⟨.other, 1, 8, .nilFunc⟩ := ⟨⟨_, Try.underlying109, rfl⟩, by kernel_rfl⟩
theorem ty110 : TyI.ok Try.prog 110 ⟨.other, 1, 8, .nilFunc⟩ := ⟨⟨_, Try.underlying110, rfl⟩, by kernel_rfl⟩
theorem ty111 : TyI.ok Try.prog 111 ⟨.other, 1, 8, .nilFunc⟩ := ⟨⟨_, Try.underlying111, rfl⟩, by kernel_rfl⟩
theorem ty112 : TyI.ok Try.prog 112 ⟨(.int .u64), 1, 8, (.int .u64 0)⟩ := ⟨⟨_, Try.underlying112, rfl⟩, by kernel_rfl⟩
theorem ty113 : TyI.ok Try.prog 113 ⟨.other, 1, 8, .nilFunc⟩ := ⟨⟨_, Try.underlying113, rfl⟩, by kernel_rfl⟩
theorem ty114 : TyI.ok Try.prog 114 ⟨.other, 1, 8, .nilFunc⟩ := ⟨⟨_, Try.underlying114, rfl⟩, by kernel_rfl⟩
theorem ty115 : TyI.ok Try.prog 115 ⟨.other, 1, 8, .nilFunc⟩ := ⟨⟨_, Try.underlying115, rfl⟩, by kernel_rfl⟩
theorem ty116 : TyI.ok Try.prog 116 ⟨.other, 1, 8, .nilFunc⟩ := ⟨⟨_, Try.underlying116, rfl⟩, by kernel_rfl⟩
theorem ty117 : TyI.ok Try.prog 117 ⟨(.int .i64), 1, 8, (.int .i64 0)⟩ := ⟨⟨_, Try.underlying117, rfl⟩, by kernel_rfl⟩
theorem ty119 : TyI.ok Try.prog 119 ⟨.other, 1, 8, .nilFunc⟩ := ⟨⟨_, Try.underlying119, rfl⟩, by kernel_rfl⟩
theorem ty120 : TyI.ok Try.prog 120 ⟨.other, 1, 8, .nilFunc⟩ := ⟨⟨_, Try.underlying120, rfl⟩, by kernel_rfl⟩
theorem ty121 : TyI.ok Try.prog 121 ⟨.other, 1, 8, .nilFunc⟩ := ⟨⟨_, Try.underlying121, rfl⟩, by kernel_rfl⟩
theorem ty122 : TyI.ok Try.prog 122 ⟨.other, 1, 8, .nilFunc⟩ := ⟨⟨_, Try.underlying122, rfl⟩, by kernel_rfl⟩
theorem ty124 : TyI.ok Try.prog 124 ⟨.other, 1, 8, .nilFunc⟩ := ⟨⟨_, Try.underlying124, rfl⟩, by kernel_rfl⟩
theorem ty125 : TyI.ok Try.prog 125 ⟨.other, 1, 8, .nilFunc⟩ := ⟨⟨_, Try.underlying125, rfl⟩, by kernel_rfl⟩
theorem ty126 : TyI.ok Try.prog 126 ⟨(.int .u32), 1, 4, (.int .u32 0)⟩ := ⟨⟨_, Try.underlying126, rfl⟩, by kernel_rfl⟩
theorem ty127 : TyI.ok Try.prog 127 ⟨.other, 1, 8, .nilFunc⟩ := ⟨⟨_, Try.underlying127, rfl⟩, by kernel_rfl⟩
theorem ty128 : TyI.ok Try.prog 128 ⟨(.int .u64), 1, 8, (.int .u64 0)⟩ := ⟨⟨_, Try.underlying128, rfl⟩, by kernel_rfl⟩
theorem ty129 : TyI.ok Try.prog 129 ⟨(.int .u64), 1, 8, (.int .u64 0)⟩ := ⟨⟨_, Try.underlying129, rfl⟩, by kernel_rfl⟩
theorem ty130 : TyI.ok Try.prog 130 ⟨.other, 1, 8, .nilFunc⟩ := ⟨⟨_, Try.underlying130, rfl⟩, by kernel_rfl⟩
theorem ty131 : TyI.ok Try.prog 131 ⟨.other, 1, 8, .nilFunc⟩ := ⟨⟨_, Try.underlying131, rfl⟩, by kernel_rfl⟩
theorem ty132 : TyI.ok Try.prog 132 ⟨.other, 1, 8, .nilFunc⟩ := ⟨⟨_, Try.underlying132, rfl⟩, by kernel_rfl⟩
theorem ty133 : TyI.ok Try.prog 133 ⟨(.ptr 3), 1, 8, (.pointer none)⟩ := ⟨⟨_, Try.underlying133, rfl⟩, by kernel_rfl⟩
theorem ty134 : TyI.ok Try.prog 134 ⟨.other, 1, 8, .nilFunc⟩ := ⟨⟨_, Try.underlying134, rfl⟩, by kernel_rfl⟩
theorem ty135 : TyI.ok Try.prog 135 ⟨(.ptr 129), 1, 8, (.pointer none)⟩ := ⟨⟨_, Try.underlying135, rfl⟩, by kernel_rfl⟩
theorem ty137 : TyI.ok Try.prog 137 ⟨.other, 1, 8, .nilFunc⟩ := ⟨⟨_, Try.underlying137, rfl⟩, by kernel_rfl⟩
theorem ty138 : TyI.ok Try.prog 138 ⟨.other, 1, 8, .nilFunc⟩ := ⟨⟨_, Try.underlying138, rfl⟩, by kernel_rfl⟩
theorem ty139 : TyI.ok Try.prog 139 ⟨(.struct [(0, 17), (1, 17), (2, 17), (3, 9)]), 4, 40, (.agg #[(.pointer none), (.pointer none), (.pointer none), (.string ⟨#[]⟩)])⟩ := ⟨⟨_, Try.underlying139, _, rfl, rfl⟩, by kernel_rfl⟩
theorem ty140 : TyI.ok Try.prog 140 ⟨(.struct [(0, 17), (1, 17), (2, 17), (3, 9)]), 4, 40, (.agg #[(.pointer none), (.pointer none), (.pointer none), (.string ⟨#[]⟩)])⟩ := ⟨⟨_, Try.underlying140, _, rfl, rfl⟩, by kernel_rfl⟩
theorem ty141 : TyI.ok Try.prog 141 ⟨(.array 0 16), 0, 0, (.agg #[])⟩ := ⟨⟨_, Try.underlying141, rfl⟩, by kernel_rfl⟩
theorem ty142 : TyI.ok Try.prog 142 ⟨(.struct [(0, 141)]), 0, 0, (.agg #[])⟩ := ⟨⟨_, Try.underlying142, _, rfl, rfl⟩, by kernel_rfl⟩
theorem ty143 : TyI.ok Try.prog 143 ⟨(.struct [(0, 141)]), 0, 0, (.agg #[])⟩ := ⟨⟨_, Try.underlying143, _, rfl, rfl⟩, by kernel_rfl⟩
theorem ty144 : TyI.ok Try.prog 144 ⟨(.int .u8), 1, 1, (.int .u8 0)⟩ := ⟨⟨_, Try.underlying144, rfl⟩, by kernel_rfl⟩
theorem ty145 : TyI.ok Try.prog 145 ⟨(.int .u8), 1, 1, (.int .u8 0)⟩ := ⟨⟨_, Try.underlying145, rfl⟩, by kernel_rfl⟩
theorem ty146 : TyI.ok Try.prog 146 ⟨.other, 1, 8, .nilFunc⟩ := ⟨⟨_, Try.underlying146, rfl⟩, by kernel_rfl⟩
theorem ty147 : TyI.ok Try.prog 147 ⟨(.ptr 5), 1, 8, (.pointer none)⟩ := ⟨⟨_, Try.underlying147, rfl⟩, by kernel_rfl⟩
theorem ty148 : TyI.ok Try.prog 148 ⟨(.int .i32), 1, 4, (.int .i32 0)⟩ := ⟨⟨_, Try.underlying148, rfl⟩, by kernel_rfl⟩
theorem ty149 : TyI.ok Try.prog 149 ⟨(.int .i32), 1, 4, (.int .i32 0)⟩ := ⟨⟨_, Try.underlying149, rfl⟩, by kernel_rfl⟩
theorem ty150 : TyI.ok Try.prog 150 ⟨(.struct [(0, 12), (1, 12), (2, 126), (3, 144), (4, 5), (5, 5), (6, 145), (7, 146), (8, 147), (9, 148), (10, 149)]), 11, 48, (.agg #[(.int .u64 0), (.int .u64 0), (.int .u32 0), (.int .u8 0), (.int .u8 0), (.int .u8 0), (.int .u8 0), .nilFunc, (.pointer none), (.int .i32 0), (.int .i32 0)])⟩ := ⟨⟨_, Try.underlying150, _, rfl, rfl⟩, by kernel_rfl⟩
theorem ty151 : TyI.ok Try.prog 151 ⟨(.struct [(0, 12), (1, 12), (2, 126), (3, 144), (4, 5), (5, 5), (6, 145), (7, 146), (8, 147), (9, 148), (10, 149)]), 11, 48, (.agg #[(.int .u64 0), (.int .u64 0), (.int .u32 0), (.int .u8 0), (.int .u8 0), (.int .u8 0), (.int .u8 0), .nilFunc, (.pointer none), (.int .i32 0), (.int .i32 0)])⟩ := ⟨⟨_, Try.underlying151, _, rfl, rfl⟩, by kernel_rfl⟩
theorem ty152 : TyI.ok Try.prog 152 ⟨.other, 1, 8, .nilFunc⟩ := ⟨⟨_, Try.underlying152, rfl⟩, by kernel_rfl⟩
theorem tabOk : TabOk Try.prog tab := .cons ty1 (.cons ty2 (.cons ty3 (.cons ty4 (.cons ty5 (.cons ty6 (.cons ty7 (.cons ty8 (.cons ty9 (.cons ty10 (.cons ty11 (.cons ty12 (.cons ty13 (.cons ty14 (.cons ty15 (.cons ty16 (.cons ty17 (.cons ty18 (.cons ty19 (.cons ty21 (.cons ty22 (.cons ty23 (.cons ty24 (.cons ty25 (.cons ty26 (.cons ty27 (.cons ty28 (.cons ty29 (.cons ty30 (.cons ty31 (.cons ty32 (.cons ty33 (.cons ty34 (.cons ty35 (.cons ty36 (.cons ty37 (.cons ty38 (.cons ty39 (.cons ty40 (.cons ty41 (.cons ty42 (.cons ty43 (.cons ty44 (.cons ty46 (.cons ty47 (.cons ty48 (.cons ty49 (.cons ty50 (.cons ty51 (.cons ty52 (.cons ty54 (.cons ty55 (.cons ty56 (.cons ty57 (.cons ty58 (.cons ty59 (.cons ty60 (.cons ty61 (.cons ty62 (.cons ty63 (.cons ty64 (.cons ty65 (.cons ty66 (.cons ty67 (.cons ty68 (.cons ty69 (.cons ty70 (.cons ty71 (.cons ty72 (.cons ty73 (.cons ty74 (.cons ty75 (.cons ty76 (.cons ty77 (.cons ty78 (.cons ty80 (.cons ty81 (.cons ty82 (.cons ty83 (.cons ty84 (.cons ty85 (.cons ty86 (.cons ty87 (.cons ty88 (.cons ty89 (.cons ty90 (.cons ty91 (.cons ty92 (.cons ty93 (.cons ty94 (.cons ty95 (.cons ty96 (.cons ty97 (.cons ty98 (.cons ty99 (.cons ty100 (.cons ty101 (.cons ty102 (.cons ty103 (.cons ty104 (.cons ty105 (.cons ty106 (.cons ty107 (.cons ty108 (.cons ty109 (.cons ty110 (.cons ty111 (.cons ty112 (.cons ty113 (.cons ty114 (.cons ty115 (.cons ty116 (.cons ty117 (.cons ty119 (.cons ty120 (.cons ty121 (.cons ty122 (.cons ty124 (.cons ty125 (.cons ty126 (.cons ty127 (.cons ty128 (.cons ty129 (.cons ty130 (.cons ty131 (.cons ty132 (.cons ty133 (.cons ty134 (.cons ty135 (.cons ty137 (.cons ty138 (.cons ty139 (.cons ty140 (.cons ty141 (.cons ty142 (.cons ty143 (.cons ty144 (.cons ty145 (.cons ty146 (.cons ty147 (.cons ty148 (.cons ty149 (.cons ty150 (.cons ty151 (.cons ty152 (.nil _)))))))))))))))))))))))))))))))))))))))))))))))))))))))))))))))))))))))))))))))))))))))))))))))))))))))))))))))))))))))))))))))))))))))))))))))))
theorem mixed : Try.prog.follows .mixedOrders = true := by kernel_rfl
end Go.Proofs.Ytbhlkninmbafcaa
