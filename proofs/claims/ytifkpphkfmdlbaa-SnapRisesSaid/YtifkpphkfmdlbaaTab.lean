/- The types that the code of this seat names, and that the program says so. By a program of this session (wip/tab.py). -/
import Derived.Test.YtifkpphkfmdlbaaRxOps
import Derived.Test.YtifkpphkfmdlbaaProg
set_option maxRecDepth 100000
namespace Go.Proofs.Ytifkpphkfmdlbaa
open Go.RX Go
def tab : Tab := [
  (1, ⟨.other, 1, 8, .nilFunc⟩),
  (2, ⟨(.int .i64), 1, 8, (.int .i64 0)⟩),
  (3, ⟨(.int .i64), 1, 8, (.int .i64 0)⟩),
  (4, ⟨.bool, 1, 1, (.bool false)⟩),
  (5, ⟨(.int .u8), 1, 1, (.int .u8 0)⟩),
  (6, ⟨(.int .u8), 1, 1, (.int .u8 0)⟩),
  (7, ⟨(.struct [(0, 2), (1, 3), (2, 4), (3, 6)]), 4, 24, (.agg #[(.int .i64 0), (.int .i64 0), (.bool false), (.int .u8 0)])⟩),
  (8, ⟨(.struct [(0, 2), (1, 3), (2, 4), (3, 6)]), 4, 24, (.agg #[(.int .i64 0), (.int .i64 0), (.bool false), (.int .u8 0)])⟩),
  (9, ⟨.str, 1, 16, (.string ⟨#[]⟩)⟩),
  (10, ⟨.str, 1, 16, (.string ⟨#[]⟩)⟩),
  (11, ⟨.str, 1, 16, (.string ⟨#[]⟩)⟩),
  (12, ⟨(.int .u64), 1, 8, (.int .u64 0)⟩),
  (13, ⟨(.struct [(0, 9), (1, 12)]), 2, 24, (.agg #[(.string ⟨#[]⟩), (.int .u64 0)])⟩),
  (14, ⟨(.struct [(0, 9), (1, 12)]), 2, 24, (.agg #[(.string ⟨#[]⟩), (.int .u64 0)])⟩),
  (15, ⟨(.ptr 46), 1, 8, (.pointer none)⟩),
  (16, ⟨(.ptr 49), 1, 8, (.pointer none)⟩),
  (17, ⟨(.ptr 59), 1, 8, (.pointer none)⟩),
  (18, ⟨(.struct [(0, 17)]), 1, 8, (.agg #[(.pointer none)])⟩),
  (19, ⟨(.struct [(0, 17)]), 1, 8, (.agg #[(.pointer none)])⟩),
  (21, ⟨(.int .i32), 1, 4, (.int .i32 0)⟩),
  (22, ⟨(.slice 5), 1, 24, (.slice none 0 0)⟩),
  (23, ⟨.other, 1, 8, .nilFunc⟩),
  (24, ⟨(.slice 2), 1, 24, (.slice none 0 0)⟩),
  (25, ⟨(.struct [(0, 2), (1, 24)]), 2, 32, (.agg #[(.int .i64 0), (.slice none 0 0)])⟩),
  (26, ⟨(.struct [(0, 2), (1, 24)]), 2, 32, (.agg #[(.int .i64 0), (.slice none 0 0)])⟩),
  (27, ⟨.other, 1, 8, .nilFunc⟩),
  (28, ⟨.other, 1, 8, .nilFunc⟩),
  (29, ⟨.other, 1, 8, .nilFunc⟩),
  (30, ⟨.other, 1, 8, .nilFunc⟩),
  (31, ⟨.other, 1, 8, .nilFunc⟩),
  (32, ⟨.other, 1, 8, .nilFunc⟩),
  (33, ⟨.other, 1, 8, .nilFunc⟩),
  (34, ⟨.other, 1, 8, .nilFunc⟩),
  (35, ⟨.other, 1, 8, .nilFunc⟩),
  (36, ⟨.other, 1, 8, .nilFunc⟩),
  (37, ⟨(.slice 4), 1, 24, (.slice none 0 0)⟩),
  (38, ⟨.other, 1, 8, .nilFunc⟩),
  (39, ⟨.other, 1, 8, .nilFunc⟩),
  (40, ⟨.other, 1, 8, .nilFunc⟩),
  (41, ⟨.other, 1, 8, .nilFunc⟩),
  (42, ⟨.other, 1, 8, .nilFunc⟩),
  (43, ⟨.other, 1, 8, .nilFunc⟩),
  (44, ⟨.other, 1, 8, .nilFunc⟩),
  (45, ⟨(.struct [(0, 17), (1, 17), (2, 17), (3, 9)]), 4, 40, (.agg #[(.pointer none), (.pointer none), (.pointer none), (.string ⟨#[]⟩)])⟩),
  (46, ⟨(.struct [(0, 17), (1, 17), (2, 17), (3, 9)]), 4, 40, (.agg #[(.pointer none), (.pointer none), (.pointer none), (.string ⟨#[]⟩)])⟩),
  (47, ⟨(.array 0 16), 0, 0, (.agg #[])⟩),
  (48, ⟨(.struct [(0, 47)]), 0, 0, (.agg #[])⟩),
  (49, ⟨(.struct [(0, 47)]), 0, 0, (.agg #[])⟩),
  (50, ⟨.other, 1, 8, .nilFunc⟩),
  (51, ⟨(.int .u32), 1, 4, (.int .u32 0)⟩),
  (52, ⟨(.int .u8), 1, 1, (.int .u8 0)⟩),
  (53, ⟨(.int .u8), 1, 1, (.int .u8 0)⟩),
  (54, ⟨.other, 1, 8, .nilFunc⟩),
  (55, ⟨(.ptr 5), 1, 8, (.pointer none)⟩),
  (56, ⟨(.int .i32), 1, 4, (.int .i32 0)⟩),
  (57, ⟨(.int .i32), 1, 4, (.int .i32 0)⟩),
  (58, ⟨(.struct [(0, 12), (1, 12), (2, 51), (3, 52), (4, 5), (5, 5), (6, 53), (7, 54), (8, 55), (9, 56), (10, 57)]), 11, 48, (.agg #[(.int .u64 0), (.int .u64 0), (.int .u32 0), (.int .u8 0), (.int .u8 0), (.int .u8 0), (.int .u8 0), .nilFunc, (.pointer none), (.int .i32 0), (.int .i32 0)])⟩),
  (59, ⟨(.struct [(0, 12), (1, 12), (2, 51), (3, 52), (4, 5), (5, 5), (6, 53), (7, 54), (8, 55), (9, 56), (10, 57)]), 11, 48, (.agg #[(.int .u64 0), (.int .u64 0), (.int .u32 0), (.int .u8 0), (.int .u8 0), (.int .u8 0), (.int .u8 0), .nilFunc, (.pointer none), (.int .i32 0), (.int .i32 0)])⟩)]
theorem ty1 : TyI.ok Try.prog 1 ⟨.other, 1, 8, .nilFunc⟩ := ⟨⟨_, Try.underlying1, rfl⟩, by kernel_rfl⟩
theorem ty2 : TyI.ok Try.prog 2 ⟨(.int .i64), 1, 8, (.int .i64 0)⟩ := ⟨⟨_, Try.underlying2, rfl⟩, by kernel_rfl⟩
theorem ty3 : TyI.ok Try.prog 3 ⟨(.int .i64), 1, 8, (.int .i64 0)⟩ := ⟨⟨_, Try.underlying3, rfl⟩, by kernel_rfl⟩
theorem ty4 : TyI.ok Try.prog 4 ⟨.bool, 1, 1, (.bool false)⟩ := ⟨⟨_, Try.underlying4, rfl⟩, by kernel_rfl⟩
theorem ty5 : TyI.ok Try.prog 5 ⟨(.int .u8), 1, 1, (.int .u8 0)⟩ := ⟨⟨_, Try.underlying5, rfl⟩, by kernel_rfl⟩
theorem ty6 : TyI.ok Try.prog 6 ⟨(.int .u8), 1, 1, (.int .u8 0)⟩ := ⟨⟨_, Try.underlying6, rfl⟩, by kernel_rfl⟩
theorem ty7 : TyI.ok Try.prog 7 ⟨(.struct [(0, 2), (1, 3), (2, 4), (3, 6)]), 4, 24, (.agg #[(.int .i64 0), (.int .i64 0), (.bool false), (.int .u8 0)])⟩ := ⟨⟨_, Try.underlying7, _, rfl, rfl⟩, by kernel_rfl⟩
theorem ty8 : TyI.ok Try.prog 8 ⟨(.struct [(0, 2), (1, 3), (2, 4), (3, 6)]), 4, 24, (.agg #[(.int .i64 0), (.int .i64 0), (.bool false), (.int .u8 0)])⟩ := ⟨⟨_, Try.underlying8, _, rfl, rfl⟩, by kernel_rfl⟩
theorem ty9 : TyI.ok Try.prog 9 ⟨.str, 1, 16, (.string ⟨#[]⟩)⟩ := ⟨⟨_, Try.underlying9, rfl⟩, by kernel_rfl⟩
theorem ty10 : TyI.ok Try.prog 10 ⟨.str, 1, 16, (.string ⟨#[]⟩)⟩ := ⟨⟨_, Try.underlying10, rfl⟩, by kernel_rfl⟩
theorem ty11 : TyI.ok Try.prog 11 ⟨.str, 1, 16, (.string ⟨#[]⟩)⟩ := ⟨⟨_, Try.underlying11, rfl⟩, by kernel_rfl⟩
theorem ty12 : TyI.ok Try.prog 12 ⟨(.int .u64), 1, 8, (.int .u64 0)⟩ := ⟨⟨_, Try.underlying12, rfl⟩, by kernel_rfl⟩
theorem ty13 : TyI.ok Try.prog 13 ⟨(.struct [(0, 9), (1, 12)]), 2, 24, (.agg #[(.string ⟨#[]⟩), (.int .u64 0)])⟩ := ⟨⟨_, Try.underlying13, _, rfl, rfl⟩, by kernel_rfl⟩
theorem ty14 : TyI.ok Try.prog 14 ⟨(.struct [(0, 9), (1, 12)]), 2, 24, (.agg #[(.string ⟨#[]⟩), (.int .u64 0)])⟩ := ⟨⟨_, Try.underlying14, _, rfl, rfl⟩, by kernel_rfl⟩
theorem ty15 : TyI.ok Try.prog 15 ⟨(.ptr 46), 1, 8, (.pointer none)⟩ := ⟨⟨_, Try.underlying15, rfl⟩, by kernel_rfl⟩
theorem ty16 : TyI.ok Try.prog 16 ⟨(.ptr 49), 1, 8, (.pointer none)⟩ := ⟨⟨_, Try.underlying16, rfl⟩, by kernel_rfl⟩
theorem ty17 : TyI.ok Try.prog 17 ⟨(.ptr 59), 1, 8, (.pointer none)⟩ := ⟨⟨_, Try.underlying17, rfl⟩, by kernel_rfl⟩
theorem ty18 : TyI.ok Try.prog 18 ⟨(.struct [(0, 17)]), 1, 8, (.agg #[(.pointer none)])⟩ := ⟨⟨_, Try.underlying18, _, rfl, rfl⟩, by kernel_rfl⟩
theorem ty19 : TyI.ok Try.prog 19 ⟨(.struct [(0, 17)]), 1, 8, (.agg #[(.pointer none)])⟩ := ⟨⟨_, Try.underlying19, _, rfl, rfl⟩, by kernel_rfl⟩
theorem ty21 : TyI.ok Try.prog 21 ⟨(.int .i32), 1, 4, (.int .i32 0)⟩ := ⟨⟨_, Try.underlying21, rfl⟩, by kernel_rfl⟩
theorem ty22 : TyI.ok Try.prog 22 ⟨(.slice 5), 1, 24, (.slice none 0 0)⟩ := ⟨⟨_, Try.underlying22, rfl⟩, by kernel_rfl⟩
theorem ty23 : TyI.ok Try.prog 23 ⟨.other, 1, 8, .nilFunc⟩ := ⟨⟨_, Try.underlying23, rfl⟩, by kernel_rfl⟩
theorem ty24 : TyI.ok Try.prog 24 ⟨(.slice 2), 1, 24, (.slice none 0 0)⟩ := ⟨⟨_, Try.underlying24, rfl⟩, by kernel_rfl⟩
theorem ty25 : TyI.ok Try.prog 25 ⟨(.struct [(0, 2), (1, 24)]), 2, 32, (.agg #[(.int .i64 0), (.slice none 0 0)])⟩ := ⟨⟨_, Try.underlying25, _, rfl, rfl⟩, by kernel_rfl⟩
theorem ty26 : TyI.ok Try.prog 26 ⟨(.struct [(0, 2), (1, 24)]), 2, 32, (.agg #[(.int .i64 0), (.slice none 0 0)])⟩ := ⟨⟨_, Try.underlying26, _, rfl, rfl⟩, by kernel_rfl⟩
theorem ty27 : TyI.ok Try.prog 27 ⟨.other, 1, 8, .nilFunc⟩ := ⟨⟨_, Try.underlying27, rfl⟩, by kernel_rfl⟩
theorem ty28 : TyI.ok Try.prog 28 ⟨.other, 1, 8, .nilFunc⟩ := ⟨⟨_, Try.underlying28, rfl⟩, by kernel_rfl⟩
theorem ty29 : TyI.ok Try.prog 29 ⟨.other, 1, 8, .nilFunc⟩ := ⟨⟨_, Try.underlying29, rfl⟩, by kernel_rfl⟩
theorem ty30 : TyI.ok Try.prog 30 ⟨.other, 1, 8, .nilFunc⟩ := ⟨⟨_, Try.underlying30, rfl⟩, by kernel_rfl⟩
theorem ty31 : TyI.ok Try.prog 31 ⟨.other, 1, 8, .nilFunc⟩ := ⟨⟨_, Try.underlying31, rfl⟩, by kernel_rfl⟩
theorem ty32 : TyI.ok Try.prog 32 ⟨.other, 1, 8, .nilFunc⟩ := ⟨⟨_, Try.underlying32, rfl⟩, by kernel_rfl⟩
theorem ty33 : TyI.ok Try.prog 33 ⟨.other, 1, 8, .nilFunc⟩ := ⟨⟨_, Try.underlying33, rfl⟩, by kernel_rfl⟩
theorem ty34 : TyI.ok Try.prog 34 ⟨.other, 1, 8, .nilFunc⟩ := ⟨⟨_, Try.underlying34, rfl⟩, by kernel_rfl⟩
theorem ty35 : TyI.ok Try.prog 35 ⟨.other, 1, 8, .nilFunc⟩ := ⟨⟨_, Try.underlying35, rfl⟩, by kernel_rfl⟩
theorem ty36 : TyI.ok Try.prog 36 ⟨.other, 1, 8, .nilFunc⟩ := ⟨⟨_, Try.underlying36, rfl⟩, by kernel_rfl⟩
theorem ty37 : TyI.ok Try.prog 37 ⟨(.slice 4), 1, 24, (.slice none 0 0)⟩ := ⟨⟨_, Try.underlying37, rfl⟩, by kernel_rfl⟩
theorem ty38 : TyI.ok Try.prog 38 ⟨.other, 1, 8, .nilFunc⟩ := ⟨⟨_, Try.underlying38, rfl⟩, by kernel_rfl⟩
theorem ty39 : TyI.ok Try.prog 39 ⟨.other, 1, 8, .nilFunc⟩ := ⟨⟨_, Try.underlying39, rfl⟩, by kernel_rfl⟩
theorem ty40 : TyI.ok Try.prog 40 ⟨.other, 1, 8, .nilFunc⟩ := ⟨⟨_, Try.underlying40, rfl⟩, by kernel_rfl⟩
theorem ty41 : TyI.ok Try.prog 41 ⟨.other, 1, 8, .nilFunc⟩ := ⟨⟨_, Try.underlying41, rfl⟩, by kernel_rfl⟩
theorem ty42 : TyI.ok Try.prog 42 ⟨.other, 1, 8, .nilFunc⟩ := ⟨⟨_, Try.underlying42, rfl⟩, by kernel_rfl⟩
theorem ty43 : TyI.ok Try.prog 43 ⟨.other, 1, 8, .nilFunc⟩ := ⟨⟨_, Try.underlying43, rfl⟩, by kernel_rfl⟩
theorem ty44 : TyI.ok Try.prog 44 ⟨.other, 1, 8, .nilFunc⟩ := ⟨⟨_, Try.underlying44, rfl⟩, by kernel_rfl⟩
theorem ty45 : TyI.ok Try.prog 45 ⟨(.struct [(0, 17), (1, 17), (2, 17), (3, 9)]), 4, 40, (.agg #[(.pointer none), (.pointer none), (.pointer none), (.string ⟨#[]⟩)])⟩ := ⟨⟨_, Try.underlying45, _, rfl, rfl⟩, by kernel_rfl⟩
theorem ty46 : TyI.ok Try.prog 46 ⟨(.struct [(0, 17), (1, 17), (2, 17), (3, 9)]), 4, 40, (.agg #[(.pointer none), (.pointer none), (.pointer none), (.string ⟨#[]⟩)])⟩ := ⟨⟨_, Try.underlying46, _, rfl, rfl⟩, by kernel_rfl⟩
theorem ty47 : TyI.ok Try.prog 47 ⟨(.array 0 16), 0, 0, (.agg #[])⟩ := ⟨⟨_, Try.underlying47, rfl⟩, by kernel_rfl⟩
theorem ty48 : TyI.ok Try.prog 48 ⟨(.struct [(0, 47)]), 0, 0, (.agg #[])⟩ := ⟨⟨_, Try.underlying48, _, rfl, rfl⟩, by kernel_rfl⟩
theorem ty49 : TyI.ok Try.prog 49 ⟨(.struct [(0, 47)]), 0, 0, (.agg #[])⟩ := ⟨⟨_, Try.underlying49, _, rfl, rfl⟩, by kernel_rfl⟩
theorem ty50 : TyI.ok Try.prog 50 ⟨.other, 1, 8, .nilFunc⟩ := ⟨⟨_, Try.underlying50, rfl⟩, by kernel_rfl⟩
theorem ty51 : TyI.ok Try.prog 51 ⟨(.int .u32), 1, 4, (.int .u32 0)⟩ := ⟨⟨_, Try.underlying51, rfl⟩, by kernel_rfl⟩
theorem ty52 : TyI.ok Try.prog 52 ⟨(.int .u8), 1, 1, (.int .u8 0)⟩ := ⟨⟨_, Try.underlying52, rfl⟩, by kernel_rfl⟩
theorem ty53 : TyI.ok Try.prog 53 ⟨(.int .u8), 1, 1, (.int .u8 0)⟩ := ⟨⟨_, Try.underlying53, rfl⟩, by kernel_rfl⟩
theorem ty54 : TyI.ok Try.prog 54 ⟨.other, 1, 8, .nilFunc⟩ := ⟨⟨_, Try.underlying54, rfl⟩, by kernel_rfl⟩
theorem ty55 : TyI.ok Try.prog 55 ⟨(.ptr 5), 1, 8, (.pointer none)⟩ := ⟨⟨_, Try.underlying55, rfl⟩, by kernel_rfl⟩
theorem ty56 : TyI.ok Try.prog 56 ⟨(.int .i32), 1, 4, (.int .i32 0)⟩ := ⟨⟨_, Try.underlying56, rfl⟩, by kernel_rfl⟩
theorem ty57 : TyI.ok Try.prog 57 ⟨(.int .i32), 1, 4, (.int .i32 0)⟩ := ⟨⟨_, Try.underlying57, rfl⟩, by kernel_rfl⟩
theorem ty58 : TyI.ok Try.prog 58 ⟨(.struct [(0, 12), (1, 12), (2, 51), (3, 52), (4, 5), (5, 5), (6, 53), (7, 54), (8, 55), (9, 56), (10, 57)]), 11, 48, (.agg #[(.int .u64 0), (.int .u64 0), (.int .u32 0), (.int .u8 0), (.int .u8 0), (.int .u8 0), (.int .u8 0), .nilFunc, (.pointer none), (.int .i32 0), (.int .i32 0)])⟩ := ⟨⟨_, Try.underlying58, _, rfl, rfl⟩, by kernel_rfl⟩
theorem ty59 : TyI.ok Try.prog 59 ⟨(.struct [(0, 12), (1, 12), (2, 51), (3, 52), (4, 5), (5, 5), (6, 53), (7, 54), (8, 55), (9, 56), (10, 57)]), 11, 48, (.agg #[(.int .u64 0), (.int .u64 0), (.int .u32 0), (.int .u8 0), (.int .u8 0), (.int .u8 0), (.int .u8 0), .nilFunc, (.pointer none), (.int .i32 0), (.int .i32 0)])⟩ := ⟨⟨_, Try.underlying59, _, rfl, rfl⟩, by kernel_rfl⟩
theorem tabOk : TabOk Try.prog tab := .cons ty1 (.cons ty2 (.cons ty3 (.cons ty4 (.cons ty5 (.cons ty6 (.cons ty7 (.cons ty8 (.cons ty9 (.cons ty10 (.cons ty11 (.cons ty12 (.cons ty13 (.cons ty14 (.cons ty15 (.cons ty16 (.cons ty17 (.cons ty18 (.cons ty19 (.cons ty21 (.cons ty22 (.cons ty23 (.cons ty24 (.cons ty25 (.cons ty26 (.cons ty27 (.cons ty28 (.cons ty29 (.cons ty30 (.cons ty31 (.cons ty32 (.cons ty33 (.cons ty34 (.cons ty35 (.cons ty36 (.cons ty37 (.cons ty38 (.cons ty39 (.cons ty40 (.cons ty41 (.cons ty42 (.cons ty43 (.cons ty44 (.cons ty45 (.cons ty46 (.cons ty47 (.cons ty48 (.cons ty49 (.cons ty50 (.cons ty51 (.cons ty52 (.cons ty53 (.cons ty54 (.cons ty55 (.cons ty56 (.cons ty57 (.cons ty58 (.cons ty59 (.nil _))))))))))))))))))))))))))))))))))))))))))))))))))))))))))
theorem mixed : Try.prog.follows .mixedOrders = true := by kernel_rfl
end Go.Proofs.Ytifkpphkfmdlbaa
