/- The program's types, as the summaries read them. No statement of a law is proved here. -/
import Derived.Test.YtbmgafmmaihmfaaDoorL29
import Derived.Test.YtbmgafmmaihmfaaDoorProg
set_option linter.unusedVariables false
set_option maxRecDepth 100000
namespace Go.Bw.A
open Go.Proofs Go.Bw
def tab : List (Nat × TI) := [
  (2, ⟨.int .i64, 1, 8, false, [.int .i64 0]⟩),
  (3, ⟨.int .i64, 1, 8, false, [.int .i64 0]⟩),
  (4, ⟨.bool, 1, 1, false, [.bool false]⟩),
  (5, ⟨.int .u8, 1, 1, false, [.int .u8 0]⟩),
  (6, ⟨.int .u8, 1, 1, false, [.int .u8 0]⟩),
  (7, ⟨.struct [(2, 0), (3, 1), (4, 2), (6, 3)], 4, 24, true, [.int .i64 0, .int .i64 0, .bool false, .int .u8 0]⟩),
  (8, ⟨.struct [(2, 0), (3, 1), (4, 2), (6, 3)], 4, 24, true, [.int .i64 0, .int .i64 0, .bool false, .int .u8 0]⟩),
  (9, ⟨.str, 1, 16, false, [.str ⟨#[]⟩]⟩),
  (10, ⟨.str, 1, 16, false, [.str ⟨#[]⟩]⟩),
  (11, ⟨.str, 1, 16, false, [.str ⟨#[]⟩]⟩),
  (12, ⟨.int .u64, 1, 8, false, [.int .u64 0]⟩),
  (13, ⟨.struct [(9, 0), (12, 1)], 2, 24, true, [.str ⟨#[]⟩, .int .u64 0]⟩),
  (14, ⟨.struct [(9, 0), (12, 1)], 2, 24, true, [.str ⟨#[]⟩, .int .u64 0]⟩),
  (20, ⟨.other, 1, 16, false, [.nilI]⟩),
  (21, ⟨.int .i32, 1, 4, false, [.int .i32 0]⟩),
  (22, ⟨.slice 25, 1, 24, false, [.list 4 []]⟩),
  (23, ⟨.slice 3, 1, 24, false, [.list 1 []]⟩),
  (24, ⟨.struct [(3, 0), (23, 1), (2, 2), (2, 3)], 4, 48, true, [.int .i64 0, .list 1 [], .int .i64 0, .int .i64 0]⟩),
  (25, ⟨.struct [(3, 0), (23, 1), (2, 2), (2, 3)], 4, 48, true, [.int .i64 0, .list 1 [], .int .i64 0, .int .i64 0]⟩),
  (28, ⟨.int .i64, 1, 8, false, [.int .i64 0]⟩),
  (41, ⟨.slice 2, 1, 24, false, [.list 1 []]⟩),
  (46, ⟨.slice 100, 1, 24, false, [.list 3 []]⟩),
  (47, ⟨.struct [(3, 0), (3, 1), (3, 2), (9, 3), (4, 4), (2, 5), (3, 6)], 7, 64, true, [.int .i64 0, .int .i64 0, .int .i64 0, .str ⟨#[]⟩, .bool false, .int .i64 0, .int .i64 0]⟩),
  (48, ⟨.struct [(3, 0), (3, 1), (3, 2), (9, 3), (4, 4), (2, 5), (3, 6)], 7, 64, true, [.int .i64 0, .int .i64 0, .int .i64 0, .str ⟨#[]⟩, .bool false, .int .i64 0, .int .i64 0]⟩),
  (49, ⟨.int .u32, 1, 4, false, [.int .u32 0]⟩),
  (69, ⟨.slice 71, 1, 24, false, [.list 8 []]⟩),
  (70, ⟨.struct [(3, 0), (48, 1)], 8, 72, true, [.int .i64 0, .int .i64 0, .int .i64 0, .int .i64 0, .str ⟨#[]⟩, .bool false, .int .i64 0, .int .i64 0]⟩),
  (71, ⟨.struct [(3, 0), (48, 1)], 8, 72, true, [.int .i64 0, .int .i64 0, .int .i64 0, .int .i64 0, .str ⟨#[]⟩, .bool false, .int .i64 0, .int .i64 0]⟩),
  (92, ⟨.int .u64, 1, 8, false, [.int .u64 0]⟩),
  (93, ⟨.arr 4 92, 4, 32, true, [.int .u64 0, .int .u64 0, .int .u64 0, .int .u64 0]⟩),
  (94, ⟨.arr 4 92, 4, 32, true, [.int .u64 0, .int .u64 0, .int .u64 0, .int .u64 0]⟩),
  (99, ⟨.struct [(3, 0), (3, 1), (9, 2)], 3, 32, true, [.int .i64 0, .int .i64 0, .str ⟨#[]⟩]⟩),
  (100, ⟨.struct [(3, 0), (3, 1), (9, 2)], 3, 32, true, [.int .i64 0, .int .i64 0, .str ⟨#[]⟩]⟩),
  (119, ⟨.int .u64, 1, 8, false, [.int .u64 0]⟩),
  (131, ⟨.slice 4, 1, 24, false, [.list 1 []]⟩),
  (134, ⟨.int .i64, 1, 8, false, [.int .i64 0]⟩),
  (148, ⟨.slice 23, 1, 24, false, [.list 1 []]⟩),
  (149, ⟨.struct [(46, 0), (131, 1), (148, 2), (48, 3)], 10, 136, true, [.list 3 [], .list 1 [], .list 1 [], .int .i64 0, .int .i64 0, .int .i64 0, .str ⟨#[]⟩, .bool false, .int .i64 0, .int .i64 0]⟩),
  (150, ⟨.struct [(46, 0), (131, 1), (148, 2), (48, 3)], 10, 136, true, [.list 3 [], .list 1 [], .list 1 [], .int .i64 0, .int .i64 0, .int .i64 0, .str ⟨#[]⟩, .bool false, .int .i64 0, .int .i64 0]⟩),
  (153, ⟨.int .u64, 1, 8, false, [.int .u64 0]⟩),
  (159, ⟨.arr 64 5, 64, 64, true, [.int .u8 0, .int .u8 0, .int .u8 0, .int .u8 0, .int .u8 0, .int .u8 0, .int .u8 0, .int .u8 0, .int .u8 0, .int .u8 0, .int .u8 0, .int .u8 0, .int .u8 0, .int .u8 0, .int .u8 0, .int .u8 0, .int .u8 0, .int .u8 0, .int .u8 0, .int .u8 0, .int .u8 0, .int .u8 0, .int .u8 0, .int .u8 0, .int .u8 0, .int .u8 0, .int .u8 0, .int .u8 0, .int .u8 0, .int .u8 0, .int .u8 0, .int .u8 0, .int .u8 0, .int .u8 0, .int .u8 0, .int .u8 0, .int .u8 0, .int .u8 0, .int .u8 0, .int .u8 0, .int .u8 0, .int .u8 0, .int .u8 0, .int .u8 0, .int .u8 0, .int .u8 0, .int .u8 0, .int .u8 0, .int .u8 0, .int .u8 0, .int .u8 0, .int .u8 0, .int .u8 0, .int .u8 0, .int .u8 0, .int .u8 0, .int .u8 0, .int .u8 0, .int .u8 0, .int .u8 0, .int .u8 0, .int .u8 0, .int .u8 0, .int .u8 0]⟩),
  (178, ⟨.int .u8, 1, 1, false, [.int .u8 0]⟩),
  (179, ⟨.int .u8, 1, 1, false, [.int .u8 0]⟩),
  (182, ⟨.int .i32, 1, 4, false, [.int .i32 0]⟩),
  (183, ⟨.int .i32, 1, 4, false, [.int .i32 0]⟩)]

def T (t : Nat) : TI := tabGet tab t
theorem tok : TOk Tryd.prog T := tok_of_list (by kernel_rfl)
theorem mixed : Tryd.prog.follows .mixedOrders = true := by kernel_rfl
end Go.Bw.A
