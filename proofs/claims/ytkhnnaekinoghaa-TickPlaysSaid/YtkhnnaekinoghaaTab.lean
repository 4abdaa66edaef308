/- The types that the code of this seat names, and that the program says so. By a program of this session (wip/tab.py). -/
import Derived.Test.YtkhnnaekinoghaaRxOps
import Derived.Test.YtkhnnaekinoghaaProg
set_option maxRecDepth 100000
namespace Go.Proofs.Ytkhnnaekinoghaa
open Go.RX Go
def tab : Tab := [
  (1, ⟨.other, 1, 8, .nilFunc⟩),
  (2, ⟨(.int .i64), 1, 8, (.int .i64 0)⟩),
  (3, ⟨(.int .i64), 1, 8, (.int .i64 0)⟩),
  (4, ⟨.bool, 1, 1, (.bool false)⟩),
  (5, ⟨(.int .u8), 1, 1, (.int .u8 0)⟩),
  (6, ⟨(.int .u8), 1, 1, (.int .u8 0)⟩),
  (7, ⟨(.struct [(0, 2), (1, 3), (2, 4), (3, 6)]), 4, 24, (.agg #[(.int .i64 0), (.int .i64 0), (.bool false), (.int .u8 0)])⟩),
  (8, ⟨(.struct [(0, 2), (1, 3), (2, 4), (3, 6)]), 4, 24, (.agg #[(.int .i64 0), (.int .i64 0), (.bool false), (.int .u8 0)])⟩),
  (9, ⟨.str, 1, 16, (.string ⟨#[]⟩)⟩),
  (10, ⟨.str, 1, 16, (.string ⟨#[]⟩)⟩),
  (11, ⟨.str, 1, 16, (.string ⟨#[]⟩)⟩),
  (12, ⟨(.int .u64), 1, 8, (.int .u64 0)⟩),
  (13, ⟨(.struct [(0, 9), (1, 12)]), 2, 24, (.agg #[(.string ⟨#[]⟩), (.int .u64 0)])⟩),
  (14, ⟨(.struct [(0, 9), (1, 12)]), 2, 24, (.agg #[(.string ⟨#[]⟩), (.int .u64 0)])⟩),
  (15, ⟨(.ptr 73), 1, 8, (.pointer none)⟩),
  (16, ⟨(.ptr 76), 1, 8, (.pointer none)⟩),
  (17, ⟨(.ptr 85), 1, 8, (.pointer none)⟩),
  (18, ⟨(.struct [(0, 17)]), 1, 8, (.agg #[(.pointer none)])⟩),
  (19, ⟨(.struct [(0, 17)]), 1, 8, (.agg #[(.pointer none)])⟩),
  (21, ⟨(.int .i32), 1, 4, (.int .i32 0)⟩),
  (22, ⟨.other, 1, 8, .nilFunc⟩),
  (23, ⟨(.ptr 57), 1, 8, (.pointer none)⟩),
  (24, ⟨.other, 1, 8, .nilFunc⟩),
  (25, ⟨(.slice 2), 1, 24, (.slice none 0 0)⟩),
  (26, ⟨(.struct [(0, 2), (1, 25)]), 2, 32, (.agg #[(.int .i64 0), (.slice none 0 0)])⟩),
  (27, ⟨(.struct [(0, 2), (1, 25)]), 2, 32, (.agg #[(.int .i64 0), (.slice none 0 0)])⟩),
  (28, ⟨(.struct [(0, 2), (1, 27), (3, 2)]), 4, 48, (.agg #[(.int .i64 0), (.int .i64 0), (.slice none 0 0), (.int .i64 0)])⟩),
  (29, ⟨(.struct [(0, 2), (1, 27), (3, 2)]), 4, 48, (.agg #[(.int .i64 0), (.int .i64 0), (.slice none 0 0), (.int .i64 0)])⟩),
  (30, ⟨(.int .i64), 1, 8, (.int .i64 0)⟩),
  (32, ⟨.other, 1, 8, .nilFunc⟩),
  (33, ⟨.other, 1, 8, .nilFunc⟩),
  (34, ⟨.other, 1, 8, .nilFunc⟩),
  (35, ⟨.other, 1, 8, .nilFunc⟩),
  (36, ⟨(.slice 5), 1, 24, (.slice none 0 0)⟩),
  (37, ⟨.other, 1, 8, .nilFunc⟩),
  (38, ⟨.other, 1, 8, .nilFunc⟩),
  (39, ⟨.other, 1, 8, .nilFunc⟩),
  (40, ⟨.other, 1, 8, .nilFunc⟩),
  (41, ⟨.other, 1, 8, .nilFunc⟩),
  (42, ⟨.other, 1, 8, .nilFunc⟩),
  (44, ⟨.other, 1, 8, .nilFunc⟩),
  (45, ⟨.other, 1, 8, .nilFunc⟩),
  (46, ⟨.other, 1, 8, .nilFunc⟩),
  (47, ⟨(.slice 53), 1, 24, (.slice none 0 0)⟩),
  (48, ⟨(.ptr 51), 1, 8, (.pointer none)⟩),
  (49, ⟨(.slice 29), 1, 24, (.slice none 0 0)⟩),
  (50, ⟨(.struct [(0, 49), (1, 2)]), 2, 32, (.agg #[(.slice none 0 0), (.int .i64 0)])⟩),
  (51, ⟨(.struct [(0, 49), (1, 2)]), 2, 32, (.agg #[(.slice none 0 0), (.int .i64 0)])⟩),
  (52, ⟨(.struct [(0, 5), (1, 5), (2, 36), (3, 2), (4, 2)]), 5, 48, (.agg #[(.int .u8 0), (.int .u8 0), (.slice none 0 0), (.int .i64 0), (.int .i64 0)])⟩),
  (53, ⟨(.struct [(0, 5), (1, 5), (2, 36), (3, 2), (4, 2)]), 5, 48, (.agg #[(.int .u8 0), (.int .u8 0), (.slice none 0 0), (.int .i64 0), (.int .i64 0)])⟩),
  (54, ⟨.other, 1, 8, .nilFunc⟩),
  (55, ⟨.other, 1, 8, .nilFunc⟩),
  (56, ⟨(.struct [(0, 49), (1, 2)]), 2, 32, (.agg #[(.slice none 0 0), (.int .i64 0)])⟩),
  (57, ⟨(.struct [(0, 49), (1, 2)]), 2, 32, (.agg #[(.slice none 0 0), (.int .i64 0)])⟩),
  (58, ⟨.other, 1, 8, .nilFunc⟩),
  (59, ⟨.other, 1, 8, .nilFunc⟩),
  (60, ⟨.other, 1, 8, .nilFunc⟩),
  (61, ⟨.other, 1, 8, .nilFunc⟩),
  (62, ⟨.other, 1, 8, .nilFunc⟩),
  (63, ⟨.other, 1, 8, .nilFunc⟩),
  (64, ⟨.other, 1, 8, .nilFunc⟩),
  (65, ⟨.other, 1, 8, .nilFunc⟩),
  (66, ⟨.other, 1, 8, .nilFunc⟩),
  (67, ⟨.other, 1, 8, .nilFunc⟩),
  (68, ⟨.other, 1, 8, .nilFunc⟩),
  (69, ⟨.other, 1, 8, .nilFunc⟩),
  (70, ⟨.other, 1, 8, .nilFunc⟩),
  (71, ⟨.other, 1, 8, .nilFunc⟩),
  (72, ⟨(.struct [(0, 17), (1, 17), (2, 17), (3, 9)]), 4, 40, (.agg #[(.pointer none), (.pointer none), (.pointer none), (.string ⟨#[]⟩)])⟩),
  (73, ⟨(.struct [(0, 17), (1, 17), (2, 17), (3, 9)]), 4, 40, (.agg #[(.pointer none), (.pointer none), (.pointer none), (.string ⟨#[]⟩)])⟩),
  (74, ⟨(.array 0 16), 0, 0, (.agg #[])⟩),
  (75, ⟨(.struct [(0, 74)]), 0, 0, (.agg #[])⟩),
  (76, ⟨(.struct [(0, 74)]), 0, 0, (.agg #[])⟩),
  (77, ⟨(.int .u32), 1, 4, (.int .u32 0)⟩),
  (78, ⟨(.int .u8), 1, 1, (.int .u8 0)⟩),
  (79, ⟨(.int .u8), 1, 1, (.int .u8 0)⟩),
  (80, ⟨.other, 1, 8, .nilFunc⟩),
  (81, ⟨(.ptr 5), 1, 8, (.pointer none)⟩),
  (82, ⟨(.int .i32), 1, 4, (.int .i32 0)⟩),
  (83, ⟨(.int .i32), 1, 4, (.int .i32 0)⟩),
  (84, ⟨(.struct [(0, 12), (1, 12), (2, 77), (3, 78), (4, 5), (5, 5), (6, 79), (7, 80), (8, 81), (9, 82), (10, 83)]), 11, 48, (.agg #[(.int .u64 0), (.int .u64 0), (.int .u32 0), (.int .u8 0), (.int .u8 0), (.int .u8 0), (.int .u8 0), .nilFunc, (.pointer none), (.int .i32 0), (.int .i32 0)])⟩),
  (85, ⟨(.struct [(0, 12), (1, 12), (2, 77), (3, 78), (4, 5), (5, 5), (6, 79), (7, 80), (8, 81), (9, 82), (10, 83)]), 11, 48, (.agg #[(.int .u64 0), (.int .u64 0), (.int .u32 0), (.int .u8 0), (.int .u8 0), (.int .u8 0), (.int .u8 0), .nilFunc, (.pointer none), (.int .i32 0), (.int .i32 0)])⟩)]
theorem ty1 : TyI.ok Try.prog 1 ⟨.other, 1, 8, .nilFunc⟩ := ⟨⟨_, Try.underlying1, rfl⟩, by kernel_rfl⟩
theorem ty2 : TyI.ok Try.prog 2 ⟨(.int .i64), 1, 8, (.int .i64 0)⟩ := ⟨⟨_, Try.underlying2, rfl⟩, by kernel_rfl⟩
theorem ty3 : TyI.ok Try.prog 3 ⟨(.int .i64), 1, 8, (.int .i64 0)⟩ := ⟨⟨_, Try.underlying3, rfl⟩, by kernel_rfl⟩
theorem ty4 : TyI.ok Try.prog 4 ⟨.bool, 1, 1, (.bool false)⟩ := ⟨⟨_, Try.underlying4, rfl⟩, by kernel_rfl⟩
theorem ty5 : TyI.ok Try.prog 5 ⟨(.int .u8), 1, 1, (.int .u8 0)⟩ := ⟨⟨_, Try.underlying5, rfl⟩, by kernel_rfl⟩
theorem ty6 : TyI.ok Try.prog 6 ⟨(.int .u8), 1, 1, (.int .u8 0)⟩ := ⟨⟨_, Try.underlying6, rfl⟩, by kernel_rfl⟩
theorem ty7 : TyI.ok Try.prog 7 ⟨(.struct [(0, 2), (1, 3), (2, 4), (3, 6)]), 4, 24, (.agg #[(.int .i64 0), (.int .i64 0), (.bool false), (.int .u8 0)])⟩ := ⟨⟨_, Try.underlying7, _, rfl, rfl⟩, by kernel_rfl⟩
theorem ty8 : TyI.ok Try.prog 8 ⟨(.struct [(0, 2), (1, 3), (2, 4), (3, 6)]), 4, 24, (.agg #[(.int .i64 0), (.int .i64 0), (.bool false), (.int .u8 0)])⟩ := ⟨⟨_, Try.underlying8, _, rfl, rfl⟩, by kernel_rfl⟩
theorem ty9 : TyI.ok Try.prog 9 ⟨.str, 1, 16, (.string ⟨#[]⟩)⟩ := ⟨⟨_, Try.underlying9, rfl⟩, by kernel_rfl⟩
theorem ty10 : TyI.ok Try.prog 10 ⟨.str, 1, 16, (.string ⟨#[]⟩)⟩ := ⟨⟨_, Try.underlying10, rfl⟩, by kernel_rfl⟩
theorem ty11 : TyI.ok Try.prog 11 ⟨.str, 1, 16, (.string ⟨#[]⟩)⟩ := ⟨⟨_, Try.underlying11, rfl⟩, by kernel_rfl⟩
theorem ty12 : TyI.ok Try.prog 12 ⟨(.int .u64), 1, 8, (.int .u64 0)⟩ := ⟨⟨_, Try.underlying12, rfl⟩, by kernel_rfl⟩
theorem ty13 : TyI.ok Try.prog 13 ⟨(.struct [(0, 9), (1, 12)]), 2, 24, (.agg #[(.string ⟨#[]⟩), (.int .u64 0)])⟩ := ⟨⟨_, Try.underlying13, _, rfl, rfl⟩, by kernel_rfl⟩
theorem ty14 : TyI.ok Try.prog 14 ⟨(.struct [(0, 9), (1, 12)]), 2, 24, (.agg #[(.string ⟨#[]⟩), (.int .u64 0)])⟩ := ⟨⟨_, Try.underlying14, _, rfl, rfl⟩, by kernel_rfl⟩
theorem ty15 : TyI.ok Try.prog 15 ⟨(.ptr 73), 1, 8, (.pointer none)⟩ := ⟨⟨_, Try.underlying15, rfl⟩, by kernel_rfl⟩
theorem ty16 : TyI.ok Try.prog 16 ⟨(.ptr 76), 1, 8, (.pointer none)⟩ := ⟨⟨_, Try.underlying16, rfl⟩, by kernel_rfl⟩
theorem ty17 : TyI.ok Try.prog 17 ⟨(.ptr 85), 1, 8, (.pointer none)⟩ := ⟨⟨_, Try.underlying17, rfl⟩, by kernel_rfl⟩
theorem ty18 : TyI.ok Try.prog 18 ⟨(.struct [(0, 17)]), 1, 8, (.agg #[(.pointer none)])⟩ := ⟨⟨_, Try.underlying18, _, rfl, rfl⟩, by kernel_rfl⟩
theorem ty19 : TyI.ok Try.prog 19 ⟨(.struct [(0, 17)]), 1, 8, (.agg #[(.pointer none)])⟩ := ⟨⟨_, Try.underlying19, _, rfl, rfl⟩, by kernel_rfl⟩
theorem ty21 : TyI.ok Try.prog 21 ⟨(.int .i32), 1, 4, (.int .i32 0)⟩ := ⟨⟨_, Try.underlying21, rfl⟩, by kernel_rfl⟩
theorem ty22 : TyI.ok Try.prog 22 ⟨.other, 1, 8, .nilFunc⟩ := ⟨⟨_, Try.underlying22, rfl⟩, by kernel_rfl⟩
theorem ty23 : TyI.ok Try.prog 23 ⟨(.ptr 57), 1, 8, (.pointer none)⟩ := ⟨⟨_, Try.underlying23, rfl⟩, by kernel_rfl⟩
theorem ty24 : TyI.ok Try.prog 24 ⟨.other, 1, 8, .nilFunc⟩ := ⟨⟨_, Try.underlying24, rfl⟩, by kernel_rfl⟩
theorem ty25 : TyI.ok Try.prog 25 ⟨(.slice 2), 1, 24, (.slice none 0 0)⟩ := ⟨⟨_, Try.underlying25, rfl⟩, by kernel_rfl⟩
theorem ty26 : TyI.ok Try.prog 26 ⟨(.struct [(0, 2), (1, 25)]), 2, 32, (.agg #[(.int .i64 0), (.slice none 0 0)])⟩ := ⟨⟨_, Try.underlying26, _, rfl, rfl⟩, by kernel_rfl⟩
theorem ty27 : TyI.ok Try.prog 27 ⟨(.struct [(0, 2), (1, 25)]), 2, 32, (.agg #[(.int .i64 0), (.slice none 0 0)])⟩ := ⟨⟨_, Try.underlying27, _, rfl, rfl⟩, by kernel_rfl⟩
theorem ty28 : TyI.ok Try.prog 28 ⟨(.struct [(0, 2), (1, 27), (3, 2)]), 4, 48, (.agg #[(.int .i64 0), (.int .i64 0), (.slice none 0 0), (.int .i64 0)])⟩ := ⟨⟨_, Try.underlying28, _, rfl, rfl⟩, by kernel_rfl⟩
theorem ty29 : TyI.ok Try.prog 29 ⟨(.struct [(0, 2), (1, 27), (3, 2)]), 4, 48, (.agg #[(.int .i64 0), (.int .i64 0), (.slice none 0 0), (.int .i64 0)])⟩ := ⟨⟨_, Try.underlying29, _, rfl, rfl⟩, by kernel_rfl⟩
theorem ty30 : TyI.ok Try.prog 30 ⟨(.int .i64), 1, 8, (.int .i64 0)⟩ := ⟨⟨_, Try.underlying30, rfl⟩, by kernel_rfl⟩
theorem ty32 : TyI.ok Try.prog 32 ⟨.other, 1, 8, .nilFunc⟩ := ⟨⟨_, Try.underlying32, rfl⟩, by kernel_rfl⟩
theorem ty33 : TyI.ok Try.prog 33 ⟨.other, 1, 8, .nilFunc⟩ := ⟨⟨_, Try.underlying33, rfl⟩, by kernel_rfl⟩
theorem ty34 : TyI.ok Try.prog 34 ⟨.other, 1, 8, .nilFunc⟩ := ⟨⟨_, Try.underlying34, rfl⟩, by kernel_rfl⟩
theorem ty35 : TyI.ok Try.prog 35 ⟨.other, 1, 8, .nilFunc⟩ := ⟨⟨_, Try.underlying35, rfl⟩, by kernel_rfl⟩
theorem ty36 : TyI.ok Try.prog 36 ⟨(.slice 5), 1, 24, (.slice none 0 0)⟩ := ⟨⟨_, Try.underlying36, rfl⟩, by kernel_rfl⟩
theorem ty37 : TyI.ok Try.prog 37 ⟨.other, 1, 8, .nilFunc⟩ := ⟨⟨_, Try.underlying37, rfl⟩, by kernel_rfl⟩
theorem ty38 : TyI.ok Try.prog 38 ⟨.other, 1, 8, .nilFunc⟩ := ⟨⟨_, Try.underlying38, rfl⟩, by kernel_rfl⟩
theorem ty39 : TyI.ok Try.prog 39 ⟨.other, 1, 8, .nilFunc⟩ := ⟨⟨_, Try.underlying39, rfl⟩, by kernel_rfl⟩
theorem ty40 : TyI.ok Try.prog 40 ⟨.other, 1, 8, .nilFunc⟩ := ⟨⟨_, Try.underlying40, rfl⟩, by kernel_rfl⟩
theorem ty41 : TyI.ok Try.prog 41 ⟨.other, 1, 8, .nilFunc⟩ := ⟨⟨_, Try.underlying41, rfl⟩, by kernel_rfl⟩
theorem ty42 : TyI.ok Try.prog 42 ⟨.other, 1, 8, .nilFunc⟩ := ⟨⟨_, Try.underlying42, rfl⟩, by kernel_rfl⟩
theorem ty44 : TyI.ok Try.prog 44 ⟨.other, 1, 8, .nilFunc⟩ := ⟨⟨_, Try.underlying44, rfl⟩, by kernel_rfl⟩
theorem ty45 : TyI.ok Try.prog 45 ⟨.other, 1, 8, .nilFunc⟩ := ⟨⟨_, Try.underlying45, rfl⟩, by kernel_rfl⟩
theorem ty46 : TyI.ok Try.prog 46 ⟨.other, 1, 8, .nilFunc⟩ := ⟨⟨_, Try.underlying46, rfl⟩, by kernel_rfl⟩
theorem ty47 : TyI.ok Try.prog 47 ⟨(.slice 53), 1, 24, (.slice none 0 0)⟩ := ⟨⟨_, Try.underlying47, rfl⟩, by kernel_rfl⟩
theorem ty48 : TyI.ok Try.prog 48 ⟨(.ptr 51), 1, 8, (.pointer none)⟩ := ⟨⟨_, Try.underlying48, rfl⟩, by kernel_rfl⟩
theorem ty49 : TyI.ok Try.prog 49 ⟨(.slice 29), 1, 24, (.slice none 0 0)⟩ := ⟨⟨_, Try.underlying49, rfl⟩, by kernel_rfl⟩
theorem ty50 : TyI.ok Try.prog 50 ⟨(.struct [(0, 49), (1, 2)]), 2, 32, (.agg #[(.slice none 0 0), (.int .i64 0)])⟩ := ⟨⟨_, Try.underlying50, _, rfl, rfl⟩, by kernel_rfl⟩
theorem ty51 : TyI.ok Try.prog 51 ⟨(.struct [(0, 49), (1, 2)]), 2, 32, (.agg #[(.slice none 0 0), (.int .i64 0)])⟩ := ⟨⟨_, Try.underlying51, _, rfl, rfl⟩, by kernel_rfl⟩
theorem ty52 : TyI.ok Try.prog 52 ⟨(.struct [(0, 5), (1, 5), (2, 36), (3, 2), (4, 2)]), 5, 48, (.agg #[(.int .u8 0), (.int .u8 0), (.slice none 0 0), (.int .i64 0), (.int .i64 0)])⟩ := ⟨⟨_, Try.underlying52, _, rfl, rfl⟩, by kernel_rfl⟩
theorem ty53 : TyI.ok Try.prog 53 ⟨(.struct [(0, 5), (1, 5), (2, 36), (3, 2), (4, 2)]), 5, 48, (.agg #[(.int .u8 0), (.int .u8 0), (.slice none 0 0), (.int .i64 0), (.int .i64 0)])⟩ := ⟨⟨_, Try.underlying53, _, rfl, rfl⟩, by kernel_rfl⟩
theorem ty54 : TyI.ok Try.prog 54 ⟨.other, 1, 8, .nilFunc⟩ := ⟨⟨_, Try.underlying54, rfl⟩, by kernel_rfl⟩
theorem ty55 : TyI.ok Try.prog 55 ⟨.other, 1, 8, .nilFunc⟩ := ⟨⟨_, Try.underlying55, rfl⟩, by kernel_rfl⟩
theorem ty56 : TyI.ok Try.prog 56 ⟨(.struct [(0, 49), (1, 2)]), 2, 32, (.agg #[(.slice none 0 0), (.int .i64 0)])⟩ := ⟨⟨_, Try.underlying56, _, rfl, rfl⟩, by kernel_rfl⟩
theorem ty57 : TyI.ok Try.prog 57 ⟨(.struct [(0, 49), (1, 2)]), 2, 32, (.agg #[(.slice none 0 0), (.int .i64 0)])⟩ := ⟨⟨_, Try.underlying57, _, rfl, rfl⟩, by kernel_rfl⟩
theorem ty58 : TyI.ok Try.prog 58 ⟨.other, 1, 8, .nilFunc⟩ := ⟨⟨_, Try.underlying58, rfl⟩, by kernel_rfl⟩
theorem ty59 : TyI.ok Try.prog 59 ⟨.other, 1, 8, .nilFunc⟩ := ⟨⟨_, Try.underlying59, rfl⟩, by kernel_rfl⟩
theorem ty60 : TyI.ok Try.prog 60 ⟨.other, 1, 8, .nilFunc⟩ := ⟨⟨_, Try.underlying60, rfl⟩, by kernel_rfl⟩
theorem ty61 : TyI.ok Try.prog 61 ⟨.other, 1, 8, .nilFunc⟩ := ⟨⟨_, Try.underlying61, rfl⟩, by kernel_rfl⟩
theorem ty62 : TyI.ok Try.prog 62 ⟨.other, 1, 8, .nilFunc⟩ := ⟨⟨_, Try.underlying62, rfl⟩, by kernel_rfl⟩
theorem ty63 : TyI.ok Try.prog 63 ⟨.other, 1, 8, .nilFunc⟩ := ⟨⟨_, Try.underlying63, rfl⟩, by kernel_rfl⟩
theorem ty64 : TyI.ok Try.prog 64 ⟨.other, 1, 8, .nilFunc⟩ := ⟨⟨_, Try.underlying64, rfl⟩, by kernel_rfl⟩
theorem ty65 : TyI.ok Try.prog 65 ⟨.other, 1, 8, .nilFunc⟩ := ⟨⟨_, Try.underlying65, rfl⟩, by kernel_rfl⟩
theorem ty66 : TyI.ok Try.prog 66 ⟨.other, 1, 8, .nilFunc⟩ := ⟨⟨_, Try.underlying66, rfl⟩, by kernel_rfl⟩
theorem ty67 : TyI.ok Try.prog 67 ⟨.other, 1, 8, .nilFunc⟩ := ⟨⟨_, Try.underlying67, rfl⟩, by kernel_rfl⟩
theorem ty68 : TyI.ok Try.prog 68 ⟨.other, 1, 8, .nilFunc⟩ := ⟨⟨_, Try.underlying68, rfl⟩, by kernel_rfl⟩
theorem ty69 : TyI.ok Try.prog 69 ⟨.other, 1, 8, .nilFunc⟩ := ⟨⟨_, Try.underlying69, rfl⟩, by kernel_rfl⟩
theorem ty70 : TyI.ok Try.prog 70 ⟨.other, 1, 8, .nilFunc⟩ := ⟨⟨_, Try.underlying70, rfl⟩, by kernel_rfl⟩
theorem ty71 : TyI.ok Try.prog 71 ⟨.other, 1, 8, .nilFunc⟩ := ⟨⟨_, Try.underlying71, rfl⟩, by kernel_rfl⟩
theorem ty72 : TyI.ok Try.prog 72 ⟨(.struct [(0, 17), (1, 17), (2, 17), (3, 9)]), 4, 40, (.agg #[(.pointer none), (.pointer none), (.pointer none), (.string ⟨#[]⟩)])⟩ := ⟨⟨_, Try.underlying72, _, rfl, rfl⟩, by kernel_rfl⟩
theorem ty73 : TyI.ok Try.prog 73 ⟨(.struct [(0, 17), (1, 17), (2, 17), (3, 9)]), 4, 40, (.agg #[(.pointer none), (.pointer none), (.pointer none), (.string ⟨#[]⟩)])⟩ := ⟨⟨_, Try.underlying73, _, rfl, rfl⟩, by kernel_rfl⟩
theorem ty74 : TyI.ok Try.prog 74 ⟨(.array 0 16), 0, 0, (.agg #[])⟩ := ⟨⟨_, Try.underlying74, rfl⟩, by kernel_rfl⟩
theorem ty75 : TyI.ok Try.prog 75 ⟨(.struct [(0, 74)]), 0, 0, (.agg #[])⟩ := ⟨⟨_, Try.underlying75, _, rfl, rfl⟩, by kernel_rfl⟩
theorem ty76 : TyI.ok Try.prog 76 ⟨(.struct [(0, 74)]), 0, 0, (.agg #[])⟩ := ⟨⟨_, Try.underlying76, _, rfl, rfl⟩, by kernel_rfl⟩
theorem ty77 : TyI.ok Try.prog 77 ⟨(.int .u32), 1, 4, (.int .u32 0)⟩ := ⟨⟨_, Try.underlying77, rfl⟩, by kernel_rfl⟩
theorem ty78 : TyI.ok Try.prog 78 ⟨(.int .u8), 1, 1, (.int .u8 0)⟩ := ⟨⟨_, Try.underlying78, rfl⟩, by kernel_rfl⟩
theorem ty79 : TyI.ok Try.prog 79 ⟨(.int .u8), 1, 1, (.int .u8 0)⟩ := ⟨⟨_, Try.underlying79, rfl⟩, by kernel_rfl⟩
theorem ty80 : TyI.ok Try.prog 80 ⟨.other, 1, 8, .nilFunc⟩ := ⟨⟨_, Try.underlying80, rfl⟩, by kernel_rfl⟩
theorem ty81 : TyI.ok Try.prog 81 ⟨(.ptr 5), 1, 8, (.pointer none)⟩ := ⟨⟨_, Try.underlying81, rfl⟩, by kernel_rfl⟩
theorem ty82 : TyI.ok Try.prog 82 ⟨(.int .i32), 1, 4, (.int .i32 0)⟩ := ⟨⟨_, Try.underlying82, rfl⟩, by kernel_rfl⟩
theorem ty83 : TyI.ok Try.prog 83 ⟨(.int .i32), 1, 4, (.int .i32 0)⟩ := ⟨⟨_, Try.underlying83, rfl⟩, by kernel_rfl⟩
theorem ty84 : TyI.ok Try.prog 84 ⟨(.struct [(0, 12), (1, 12), (2, 77), (3, 78), (4, 5), (5, 5), (6, 79), (7, 80), (8, 81), (9, 82), (10, 83)]), 11, 48, (.agg #[(.int .u64 0), (.int .u64 0), (.int .u32 0), (.int .u8 0), (.int .u8 0), (.int .u8 0), (.int .u8 0), .nilFunc, (.pointer none), (.int .i32 0), (.int .i32 0)])⟩ := ⟨⟨_, Try.underlying84, _, rfl, rfl⟩, by kernel_rfl⟩
theorem ty85 : TyI.ok Try.prog 85 ⟨(.struct [(0, 12), (1, 12), (2, 77), (3, 78), (4, 5), (5, 5), (6, 79), (7, 80), (8, 81), (9, 82), (10, 83)]), 11, 48, (.agg #[(.int .u64 0), (.int .u64 0), (.int .u32 0), (.int .u8 0), (.int .u8 0), (.int .u8 0), (.int .u8 0), .nilFunc, (.pointer none), (.int .i32 0), (.int .i32 0)])⟩ := ⟨⟨_, Try.underlying85, _, rfl, rfl⟩, by kernel_rfl⟩
theorem tabOk : TabOk Try.prog tab := .cons ty1 (.cons ty2 (.cons ty3 (.cons ty4 (.cons ty5 (.cons ty6 (.cons ty7 (.cons ty8 (.cons ty9 (.cons ty10 (.cons ty11 (.cons ty12 (.cons ty13 (.cons ty14 (.cons ty15 (.cons ty16 (.cons ty17 (.cons ty18 (.cons ty19 (.cons ty21 (.cons ty22 (.cons ty23 (.cons ty24 (.cons ty25 (.cons ty26 (.cons ty27 (.cons ty28 (.cons ty29 (.cons ty30 (.cons ty32 (.cons ty33 (.cons ty34 (.cons ty35 (.cons ty36 (.cons ty37 (.cons ty38 (.cons ty39 (.cons ty40 (.cons ty41 (.cons ty42 (.cons ty44 (.cons ty45 (.cons ty46 (.cons ty47 (.cons ty48 (.cons ty49 (.cons ty50 (.cons ty51 (.cons ty52 (.cons ty53 (.cons ty54 (.cons ty55 (.cons ty56 (.cons ty57 (.cons ty58 (.cons ty59 (.cons ty60 (.cons ty61 (.cons ty62 (.cons ty63 (.cons ty64 (.cons ty65 (.cons ty66 (.cons ty67 (.cons ty68 (.cons ty69 (.cons ty70 (.cons ty71 (.cons ty72 (.cons ty73 (.cons ty74 (.cons ty75 (.cons ty76 (.cons ty77 (.cons ty78 (.cons ty79 (.cons ty80 (.cons ty81 (.cons ty82 (.cons ty83 (.cons ty84 (.cons ty85 (.nil _))))))))))))))))))))))))))))))))))))))))))))))))))))))))))))))))))))))))))))))))))
theorem mixed : Try.prog.follows .mixedOrders = true := by kernel_rfl
end Go.Proofs.Ytkhnnaekinoghaa
