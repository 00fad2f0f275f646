/- Parts of the proof of one statement: XR13, XR14, XR15, XAwake, XPost. -/
import Derived.ChangeSame
import Derived.Test.YtgjbehfdjnekdaaGreatDoorT33
set_option linter.all false
section
/- A closed run: the calls 390 .. 419, each by those that it makes. PRINTED BY genents.py. -/
set_option maxRecDepth 100000
set_option linter.all false
namespace Go.Proofs.YtgjbehfdjnekdaaGreatDoor.Xc
noncomputable section
open Go.RowKit

def n390 : Ent := ⟨.fn 44, [.one (.sl 0 0 2 1 .full)], 1, [(0, .cells 9 [.str [97, 47, 118, 49, 32, 49, 46, 48, 46, 49, 46, 46], .str [105, 115, 32, 105, 109, 112, 111, 115, 115, 105, 98, 108, 101]])], [⟨[.one (.str [97, 47, 118, 49, 32, 49, 46, 48, 46, 49, 46, 46, 32, 105, 115, 32, 105, 109, 112, 111, 115, 115, 105, 98, 108, 101])], [(0, .cells 9 [.str [97, 47, 118, 49, 32, 49, 46, 48, 46, 49, 46, 46], .str [105, 115, 32, 105, 109, 112, 111, 115, 115, 105, 98, 108, 101]])], 1⟩]⟩
theorem t390 : n390.OK := one_ok [] tnil (by kernel_rfl)
def n391 : Ent := ⟨.fn 15, [.one (.sl 0 0 1 3 .any)], 2, [(0, .cells 29 [.str [97, 47, 118, 49], .bool false, .sl 1 0 1 2 .full]), (1, .cells 85 [.int .i64 1, .int .i64 1000000])], [⟨[.one (.str [97, 47, 118, 49, 32, 49, 46, 48, 46, 49, 46, 46, 32, 105, 115, 32, 105, 109, 112, 111, 115, 115, 105, 98, 108, 101])], [(0, .cells 29 [.str [97, 47, 118, 49], .bool false, .sl 1 0 1 2 .full]), (1, .cells 85 [.int .i64 1, .int .i64 1000000])], 2⟩]⟩
theorem t391 : n391.OK := one_ok [n390, n389, n157] (tcons t390 (tcons t389 (tcons t157 tnil))) (by kernel_rfl)
def n392 : Ent := ⟨.fn 112, [.agg [.int .i64 2, .str [97, 47, 118, 49], .int .i64 0, .int .i64 0, .int .i64 0, .int .i64 0]], 0, [], [⟨[.one (.str [40, 110, 111, 32, 111, 116, 104, 101, 114, 32, 114, 101, 108, 101, 97, 115, 101, 115, 41])], [], 0⟩]⟩
theorem t392 : n392.OK := one_ok [] tnil (by kernel_rfl)
def n393 : Ent := ⟨.fn 44, [.one (.sl 0 0 3 1 .full)], 1, [(0, .cells 9 [.str [50, 46], .str [97, 47, 118, 49, 32, 49, 46, 48, 46, 49, 46, 46, 32, 105, 115, 32, 105, 109, 112, 111, 115, 115, 105, 98, 108, 101], .str [40, 110, 111, 32, 111, 116, 104, 101, 114, 32, 114, 101, 108, 101, 97, 115, 101, 115, 41]])], [⟨[.one (.str [50, 46, 32, 97, 47, 118, 49, 32, 49, 46, 48, 46, 49, 46, 46, 32, 105, 115, 32, 105, 109, 112, 111, 115, 115, 105, 98, 108, 101, 32, 40, 110, 111, 32, 111, 116, 104, 101, 114, 32, 114, 101, 108, 101, 97, 115, 101, 115, 41])], [(0, .cells 9 [.str [50, 46], .str [97, 47, 118, 49, 32, 49, 46, 48, 46, 49, 46, 46, 32, 105, 115, 32, 105, 109, 112, 111, 115, 115, 105, 98, 108, 101], .str [40, 110, 111, 32, 111, 116, 104, 101, 114, 32, 114, 101, 108, 101, 97, 115, 101, 115, 41]])], 1⟩]⟩
theorem t393 : n393.OK := one_ok [] tnil (by kernel_rfl)
def n394 : Ent := ⟨.fn 222, [.one (.int .i64 3)], 0, [], [⟨[.one (.str [51])], [], 0⟩]⟩
theorem t394 : n394.OK := one_ok [] tnil (by kernel_rfl)
def n395 : Ent := ⟨.fn 154, [.one (.int .i64 3), .one (.int .i64 10)], 0, [], [⟨[.one (.str [51])], [], 0⟩]⟩
theorem t395 : n395.OK := one_ok [n394] (tcons t394 tnil) (by kernel_rfl)
def n396 : Ent := ⟨.fn 91, [.one (.int .i64 3)], 0, [], [⟨[.one (.str [51])], [], 0⟩]⟩
theorem t396 : n396.OK := one_ok [n395] (tcons t395 tnil) (by kernel_rfl)
def n397 : Ent := ⟨.fn 39, [.one (.int .i64 3)], 0, [], [⟨[.one (.str [51])], [], 0⟩]⟩
theorem t397 : n397.OK := one_ok [n396] (tcons t396 tnil) (by kernel_rfl)
def n398 : Ent := ⟨.fn 130, [.one (.int .i64 1), .one (.int .i64 0)], 0, [], [⟨[.agg [.int .i64 1, .int .i64 0, .int .i64 0], .one (.int .i64 0)], [], 0⟩]⟩
theorem t398 : n398.OK := one_ok [n30] (tcons t30 tnil) (by kernel_rfl)
def n399 : Ent := ⟨.fn 78, [.agg [.int .i64 1, .int .i64 0, .int .i64 0]], 0, [], [⟨[.one (.str [49, 46, 48, 46, 48]), .one (.int .i64 0)], [], 0⟩]⟩
theorem t399 : n399.OK := one_ok [n383, n362, n29, n30] (tcons t383 (tcons t362 (tcons t29 (tcons t30 tnil)))) (by kernel_rfl)
def n400 : Ent := ⟨.fn 161, [.one (.int .i64 0), .one (.ptr 0 0)], 1, [(0, .cells 3 [.int .i64 1])], [⟨[.one (.str [49, 46, 48, 46, 48])], [(0, .cells 3 [.int .i64 1])], 1⟩]⟩
theorem t400 : n400.OK := one_ok [n399, n398] (tcons t399 (tcons t398 tnil)) (by kernel_rfl)
def n401 : Ent := ⟨.fn 98, [.one (.sl 0 0 1 2 .full), .one (.int .i64 1)], 1, [(0, .cells 85 [.int .i64 0, .int .i64 1])], [⟨[.one (.str [49, 46, 48, 46, 48]), .one (.int .i64 0)], [(0, .cells 85 [.int .i64 0, .int .i64 1])], 1⟩]⟩
theorem t401 : n401.OK := one_ok [n400, n124] (tcons t400 (tcons t124 tnil)) (by kernel_rfl)
def n402 : Ent := ⟨.fn 45, [.one (.str [97, 47, 118, 49]), .one (.sl 0 0 1 2 .full)], 1, [(0, .cells 85 [.int .i64 0, .int .i64 1])], [⟨[.one (.str [49, 46, 48, 46, 48])], [(0, .cells 85 [.int .i64 0, .int .i64 1])], 1⟩]⟩
theorem t402 : n402.OK := one_ok [n401, n363] (tcons t401 (tcons t363 tnil)) (by kernel_rfl)
def n403 : Ent := ⟨.fn 44, [.one (.sl 0 0 2 1 .full)], 1, [(0, .cells 9 [.str [97, 47, 118, 49], .str [49, 46, 48, 46, 48]])], [⟨[.one (.str [97, 47, 118, 49, 32, 49, 46, 48, 46, 48])], [(0, .cells 9 [.str [97, 47, 118, 49], .str [49, 46, 48, 46, 48]])], 1⟩]⟩
theorem t403 : n403.OK := one_ok [] tnil (by kernel_rfl)
def n404 : Ent := ⟨.fn 13, [.agg [.str [97, 47, 118, 49], .bool true, .sl 0 0 1 2 .full]], 1, [(0, .cells 85 [.int .i64 1, .int .i64 1000000])], [⟨[.one (.str [97, 47, 118, 49, 32, 49, 46, 48, 46, 48])], [(0, .cells 85 [.int .i64 1, .int .i64 1000000])], 1⟩]⟩
theorem t404 : n404.OK := one_ok [n403, n402, n172] (tcons t403 (tcons t402 (tcons t172 tnil))) (by kernel_rfl)
def n405 : Ent := ⟨.fn 44, [.one (.sl 0 0 2 1 .full)], 1, [(0, .cells 9 [.str [97, 47, 118, 49, 32, 49, 46, 48, 46, 48], .str [105, 115, 32, 110, 101, 101, 100, 101, 100]])], [⟨[.one (.str [97, 47, 118, 49, 32, 49, 46, 48, 46, 48, 32, 105, 115, 32, 110, 101, 101, 100, 101, 100])], [(0, .cells 9 [.str [97, 47, 118, 49, 32, 49, 46, 48, 46, 48], .str [105, 115, 32, 110, 101, 101, 100, 101, 100]])], 1⟩]⟩
theorem t405 : n405.OK := one_ok [] tnil (by kernel_rfl)
def n406 : Ent := ⟨.fn 15, [.one (.sl 0 0 1 3 .any)], 2, [(0, .cells 29 [.str [97, 47, 118, 49], .bool true, .sl 1 0 1 2 .full]), (1, .cells 85 [.int .i64 1, .int .i64 1000000])], [⟨[.one (.str [97, 47, 118, 49, 32, 49, 46, 48, 46, 48, 32, 105, 115, 32, 110, 101, 101, 100, 101, 100])], [(0, .cells 29 [.str [97, 47, 118, 49], .bool true, .sl 1 0 1 2 .full]), (1, .cells 85 [.int .i64 1, .int .i64 1000000])], 2⟩]⟩
theorem t406 : n406.OK := one_ok [n405, n404, n306] (tcons t405 (tcons t404 (tcons t306 tnil))) (by kernel_rfl)
def n407 : Ent := ⟨.fn 44, [.one (.sl 0 0 4 1 .full)], 1, [(0, .cells 9 [.str [40, 102, 114, 111, 109], .str [49], .str [97, 110, 100], .str [50, 41]])], [⟨[.one (.str [40, 102, 114, 111, 109, 32, 49, 32, 97, 110, 100, 32, 50, 41])], [(0, .cells 9 [.str [40, 102, 114, 111, 109], .str [49], .str [97, 110, 100], .str [50, 41]])], 1⟩]⟩
theorem t407 : n407.OK := one_ok [] tnil (by kernel_rfl)
def n408 : Ent := ⟨.fn 112, [.agg [.int .i64 3, .str [97, 47, 118, 49], .int .i64 0, .int .i64 0, .int .i64 0, .int .i64 1]], 0, [], [⟨[.one (.str [40, 102, 114, 111, 109, 32, 49, 32, 97, 110, 100, 32, 50, 41])], [], 0⟩]⟩
theorem t408 : n408.OK := one_ok [n407, n376, n362] (tcons t407 (tcons t376 (tcons t362 tnil))) (by kernel_rfl)
def n409 : Ent := ⟨.fn 44, [.one (.sl 0 0 3 1 .full)], 1, [(0, .cells 9 [.str [51, 46], .str [97, 47, 118, 49, 32, 49, 46, 48, 46, 48, 32, 105, 115, 32, 110, 101, 101, 100, 101, 100], .str [40, 102, 114, 111, 109, 32, 49, 32, 97, 110, 100, 32, 50, 41]])], [⟨[.one (.str [51, 46, 32, 97, 47, 118, 49, 32, 49, 46, 48, 46, 48, 32, 105, 115, 32, 110, 101, 101, 100, 101, 100, 32, 40, 102, 114, 111, 109, 32, 49, 32, 97, 110, 100, 32, 50, 41])], [(0, .cells 9 [.str [51, 46], .str [97, 47, 118, 49, 32, 49, 46, 48, 46, 48, 32, 105, 115, 32, 110, 101, 101, 100, 101, 100], .str [40, 102, 114, 111, 109, 32, 49, 32, 97, 110, 100, 32, 50, 41]])], 1⟩]⟩
theorem t409 : n409.OK := one_ok [] tnil (by kernel_rfl)
def n410 : Ent := ⟨.fn 222, [.one (.int .i64 4)], 0, [], [⟨[.one (.str [52])], [], 0⟩]⟩
theorem t410 : n410.OK := one_ok [] tnil (by kernel_rfl)
def n411 : Ent := ⟨.fn 154, [.one (.int .i64 4), .one (.int .i64 10)], 0, [], [⟨[.one (.str [52])], [], 0⟩]⟩
theorem t411 : n411.OK := one_ok [n410] (tcons t410 tnil) (by kernel_rfl)
def n412 : Ent := ⟨.fn 91, [.one (.int .i64 4)], 0, [], [⟨[.one (.str [52])], [], 0⟩]⟩
theorem t412 : n412.OK := one_ok [n411] (tcons t411 tnil) (by kernel_rfl)
def n413 : Ent := ⟨.fn 39, [.one (.int .i64 4)], 0, [], [⟨[.one (.str [52])], [], 0⟩]⟩
theorem t413 : n413.OK := one_ok [n412] (tcons t412 tnil) (by kernel_rfl)
def n414 : Ent := ⟨.fn 13, [.agg [.str [97, 47, 118, 49], .bool false, .sl 0 0 1 2 .full]], 1, [(0, .cells 85 [.int .i64 0, .int .i64 1])], [⟨[.one (.str [97, 47, 118, 49, 32, 49, 46, 48, 46, 48])], [(0, .cells 85 [.int .i64 0, .int .i64 1])], 1⟩]⟩
theorem t414 : n414.OK := one_ok [n403, n402] (tcons t403 (tcons t402 tnil)) (by kernel_rfl)
def n415 : Ent := ⟨.fn 99, [.one (.str [98, 47, 118, 49])], 0, [], [⟨[.one (.int .i64 1)], [], 0⟩]⟩
theorem t415 : n415.OK := one_ok [n42] (tcons t42 tnil) (by kernel_rfl)
def n416 : Ent := ⟨.fn 132, [.agg [.int .i64 1, .int .i64 2, .int .i64 0]], 0, [], [⟨[.agg [.int .i64 1, .int .i64 2, .int .i64 0]], [], 0⟩]⟩
theorem t416 : n416.OK := one_ok [] tnil (by kernel_rfl)
def n417 : Ent := ⟨.fn 131, [.agg [.int .i64 1, .int .i64 2, .int .i64 0]], 0, [], [⟨[.one (.bool true)], [], 0⟩]⟩
theorem t417 : n417.OK := one_ok [n416] (tcons t416 tnil) (by kernel_rfl)
def n418 : Ent := ⟨.fn 130, [.one (.int .i64 1), .one (.int .i64 2000)], 0, [], [⟨[.agg [.int .i64 1, .int .i64 2, .int .i64 0], .one (.int .i64 0)], [], 0⟩]⟩
theorem t418 : n418.OK := one_ok [n417] (tcons t417 tnil) (by kernel_rfl)
def n419 : Ent := ⟨.fn 78, [.agg [.int .i64 1, .int .i64 2, .int .i64 0]], 0, [], [⟨[.one (.str [49, 46, 50, 46, 48]), .one (.int .i64 0)], [], 0⟩]⟩
theorem t419 : n419.OK := one_ok [n383, n376, n362, n416, n417] (tcons t383 (tcons t376 (tcons t362 (tcons t416 (tcons t417 tnil))))) (by kernel_rfl)
end -- nc
end Go.Proofs.YtgjbehfdjnekdaaGreatDoor.Xc
end
section
/- A closed run: the calls 420 .. 449, each by those that it makes. PRINTED BY genents.py. -/
set_option maxRecDepth 100000
set_option linter.all false
namespace Go.Proofs.YtgjbehfdjnekdaaGreatDoor.Xc
noncomputable section
open Go.RowKit

def n420 : Ent := ⟨.fn 161, [.one (.int .i64 2000), .one (.ptr 0 0)], 1, [(0, .cells 3 [.int .i64 1])], [⟨[.one (.str [49, 46, 50, 46, 48])], [(0, .cells 3 [.int .i64 1])], 1⟩]⟩
theorem t420 : n420.OK := one_ok [n419, n418] (tcons t419 (tcons t418 tnil)) (by kernel_rfl)
def n421 : Ent := ⟨.fn 98, [.one (.sl 0 0 1 2 .full), .one (.int .i64 1)], 1, [(0, .cells 85 [.int .i64 2000, .int .i64 1000000])], [⟨[.one (.str [49, 46, 50, 46, 48, 46, 46]), .one (.int .i64 0)], [(0, .cells 85 [.int .i64 2000, .int .i64 1000000])], 1⟩]⟩
theorem t421 : n421.OK := one_ok [n420, n48] (tcons t420 (tcons t48 tnil)) (by kernel_rfl)
def n422 : Ent := ⟨.fn 45, [.one (.str [98, 47, 118, 49]), .one (.sl 0 0 1 2 .full)], 1, [(0, .cells 85 [.int .i64 2000, .int .i64 1000000])], [⟨[.one (.str [49, 46, 50, 46, 48, 46, 46])], [(0, .cells 85 [.int .i64 2000, .int .i64 1000000])], 1⟩]⟩
theorem t422 : n422.OK := one_ok [n421, n415] (tcons t421 (tcons t415 tnil)) (by kernel_rfl)
def n423 : Ent := ⟨.fn 44, [.one (.sl 0 0 2 1 .full)], 1, [(0, .cells 9 [.str [98, 47, 118, 49], .str [49, 46, 50, 46, 48, 46, 46]])], [⟨[.one (.str [98, 47, 118, 49, 32, 49, 46, 50, 46, 48, 46, 46])], [(0, .cells 9 [.str [98, 47, 118, 49], .str [49, 46, 50, 46, 48, 46, 46]])], 1⟩]⟩
theorem t423 : n423.OK := one_ok [] tnil (by kernel_rfl)
def n424 : Ent := ⟨.fn 13, [.agg [.str [98, 47, 118, 49], .bool true, .sl 0 0 1 2 .full]], 1, [(0, .cells 85 [.int .i64 0, .int .i64 2000])], [⟨[.one (.str [98, 47, 118, 49, 32, 49, 46, 50, 46, 48, 46, 46])], [(0, .cells 85 [.int .i64 0, .int .i64 2000])], 1⟩]⟩
theorem t424 : n424.OK := one_ok [n423, n422, n207] (tcons t423 (tcons t422 (tcons t207 tnil))) (by kernel_rfl)
def n425 : Ent := ⟨.fn 44, [.one (.sl 0 0 3 1 .full)], 1, [(0, .cells 9 [.str [97, 47, 118, 49, 32, 49, 46, 48, 46, 48], .str [110, 101, 101, 100, 115], .str [98, 47, 118, 49, 32, 49, 46, 50, 46, 48, 46, 46]])], [⟨[.one (.str [97, 47, 118, 49, 32, 49, 46, 48, 46, 48, 32, 110, 101, 101, 100, 115, 32, 98, 47, 118, 49, 32, 49, 46, 50, 46, 48, 46, 46])], [(0, .cells 9 [.str [97, 47, 118, 49, 32, 49, 46, 48, 46, 48], .str [110, 101, 101, 100, 115], .str [98, 47, 118, 49, 32, 49, 46, 50, 46, 48, 46, 46]])], 1⟩]⟩
theorem t425 : n425.OK := one_ok [] tnil (by kernel_rfl)
def n426 : Ent := ⟨.fn 15, [.one (.sl 0 0 2 3 .any)], 3, [(0, .cells 29 [.str [97, 47, 118, 49], .bool false, .sl 1 0 1 2 .full, .str [98, 47, 118, 49], .bool true, .sl 2 0 1 2 .full]), (1, .cells 85 [.int .i64 0, .int .i64 1]), (2, .cells 85 [.int .i64 0, .int .i64 2000])], [⟨[.one (.str [97, 47, 118, 49, 32, 49, 46, 48, 46, 48, 32, 110, 101, 101, 100, 115, 32, 98, 47, 118, 49, 32, 49, 46, 50, 46, 48, 46, 46])], [(0, .cells 29 [.str [97, 47, 118, 49], .bool false, .sl 1 0 1 2 .full, .str [98, 47, 118, 49], .bool true, .sl 2 0 1 2 .full]), (1, .cells 85 [.int .i64 0, .int .i64 1]), (2, .cells 85 [.int .i64 0, .int .i64 2000])], 3⟩]⟩
theorem t426 : n426.OK := one_ok [n425, n424, n414, n261] (tcons t425 (tcons t424 (tcons t414 (tcons t261 tnil)))) (by kernel_rfl)
def n427 : Ent := ⟨.fn 75, [.one (.str [97, 47, 118, 49]), .one (.int .i64 0)], 0, [], [⟨[.one (.str [49, 46, 48, 46, 48])], [], 0⟩]⟩
theorem t427 : n427.OK := one_ok [n399, n398, n363] (tcons t399 (tcons t398 (tcons t363 tnil))) (by kernel_rfl)
def n428 : Ent := ⟨.fn 44, [.one (.sl 0 0 3 1 .full)], 1, [(0, .cells 9 [.str [40, 98, 121], .str [97, 47, 118, 49], .str [49, 46, 48, 46, 48, 41]])], [⟨[.one (.str [40, 98, 121, 32, 97, 47, 118, 49, 32, 49, 46, 48, 46, 48, 41])], [(0, .cells 9 [.str [40, 98, 121], .str [97, 47, 118, 49], .str [49, 46, 48, 46, 48, 41]])], 1⟩]⟩
theorem t428 : n428.OK := one_ok [] tnil (by kernel_rfl)
def n429 : Ent := ⟨.fn 112, [.agg [.int .i64 1, .str [97, 47, 118, 49], .int .i64 0, .int .i64 0, .int .i64 0, .int .i64 0]], 0, [], [⟨[.one (.str [40, 98, 121, 32, 97, 47, 118, 49, 32, 49, 46, 48, 46, 48, 41])], [], 0⟩]⟩
theorem t429 : n429.OK := one_ok [n428, n427] (tcons t428 (tcons t427 tnil)) (by kernel_rfl)
def n430 : Ent := ⟨.fn 44, [.one (.sl 0 0 3 1 .full)], 1, [(0, .cells 9 [.str [52, 46], .str [97, 47, 118, 49, 32, 49, 46, 48, 46, 48, 32, 110, 101, 101, 100, 115, 32, 98, 47, 118, 49, 32, 49, 46, 50, 46, 48, 46, 46], .str [40, 98, 121, 32, 97, 47, 118, 49, 32, 49, 46, 48, 46, 48, 41]])], [⟨[.one (.str [52, 46, 32, 97, 47, 118, 49, 32, 49, 46, 48, 46, 48, 32, 110, 101, 101, 100, 115, 32, 98, 47, 118, 49, 32, 49, 46, 50, 46, 48, 46, 46, 32, 40, 98, 121, 32, 97, 47, 118, 49, 32, 49, 46, 48, 46, 48, 41])], [(0, .cells 9 [.str [52, 46], .str [97, 47, 118, 49, 32, 49, 46, 48, 46, 48, 32, 110, 101, 101, 100, 115, 32, 98, 47, 118, 49, 32, 49, 46, 50, 46, 48, 46, 46], .str [40, 98, 121, 32, 97, 47, 118, 49, 32, 49, 46, 48, 46, 48, 41]])], 1⟩]⟩
theorem t430 : n430.OK := one_ok [] tnil (by kernel_rfl)
def n431 : Ent := ⟨.fn 222, [.one (.int .i64 5)], 0, [], [⟨[.one (.str [53])], [], 0⟩]⟩
theorem t431 : n431.OK := one_ok [] tnil (by kernel_rfl)
def n432 : Ent := ⟨.fn 154, [.one (.int .i64 5), .one (.int .i64 10)], 0, [], [⟨[.one (.str [53])], [], 0⟩]⟩
theorem t432 : n432.OK := one_ok [n431] (tcons t431 tnil) (by kernel_rfl)
def n433 : Ent := ⟨.fn 91, [.one (.int .i64 5)], 0, [], [⟨[.one (.str [53])], [], 0⟩]⟩
theorem t433 : n433.OK := one_ok [n432] (tcons t432 tnil) (by kernel_rfl)
def n434 : Ent := ⟨.fn 39, [.one (.int .i64 5)], 0, [], [⟨[.one (.str [53])], [], 0⟩]⟩
theorem t434 : n434.OK := one_ok [n433] (tcons t433 tnil) (by kernel_rfl)
def n435 : Ent := ⟨.fn 130, [.one (.int .i64 1), .one (.int .i64 1000)], 0, [], [⟨[.agg [.int .i64 1, .int .i64 1, .int .i64 0], .one (.int .i64 0)], [], 0⟩]⟩
theorem t435 : n435.OK := one_ok [n68] (tcons t68 tnil) (by kernel_rfl)
def n436 : Ent := ⟨.fn 78, [.agg [.int .i64 1, .int .i64 1, .int .i64 0]], 0, [], [⟨[.one (.str [49, 46, 49, 46, 48]), .one (.int .i64 0)], [], 0⟩]⟩
theorem t436 : n436.OK := one_ok [n383, n362, n67, n68] (tcons t383 (tcons t362 (tcons t67 (tcons t68 tnil)))) (by kernel_rfl)
def n437 : Ent := ⟨.fn 161, [.one (.int .i64 1000), .one (.ptr 0 0)], 1, [(0, .cells 3 [.int .i64 1])], [⟨[.one (.str [49, 46, 49, 46, 48])], [(0, .cells 3 [.int .i64 1])], 1⟩]⟩
theorem t437 : n437.OK := one_ok [n436, n435] (tcons t436 (tcons t435 tnil)) (by kernel_rfl)
def n438 : Ent := ⟨.fn 132, [.agg [.int .i64 1, .int .i64 1, .int .i64 1]], 0, [], [⟨[.agg [.int .i64 1, .int .i64 1, .int .i64 1]], [], 0⟩]⟩
theorem t438 : n438.OK := one_ok [] tnil (by kernel_rfl)
def n439 : Ent := ⟨.fn 131, [.agg [.int .i64 1, .int .i64 1, .int .i64 1]], 0, [], [⟨[.one (.bool true)], [], 0⟩]⟩
theorem t439 : n439.OK := one_ok [n438] (tcons t438 tnil) (by kernel_rfl)
def n440 : Ent := ⟨.fn 130, [.one (.int .i64 1), .one (.int .i64 1001)], 0, [], [⟨[.agg [.int .i64 1, .int .i64 1, .int .i64 1], .one (.int .i64 0)], [], 0⟩]⟩
theorem t440 : n440.OK := one_ok [n439] (tcons t439 tnil) (by kernel_rfl)
def n441 : Ent := ⟨.fn 78, [.agg [.int .i64 1, .int .i64 1, .int .i64 1]], 0, [], [⟨[.one (.str [49, 46, 49, 46, 49]), .one (.int .i64 0)], [], 0⟩]⟩
theorem t441 : n441.OK := one_ok [n362, n438, n439] (tcons t362 (tcons t438 (tcons t439 tnil))) (by kernel_rfl)
def n442 : Ent := ⟨.fn 161, [.one (.int .i64 1001), .one (.ptr 0 0)], 1, [(0, .cells 3 [.int .i64 1])], [⟨[.one (.str [49, 46, 49, 46, 49])], [(0, .cells 3 [.int .i64 1])], 1⟩]⟩
theorem t442 : n442.OK := one_ok [n441, n440] (tcons t441 (tcons t440 tnil)) (by kernel_rfl)
def n443 : Ent := ⟨.fn 98, [.one (.sl 0 0 2 2 .full), .one (.int .i64 1)], 1, [(0, .cells 85 [.int .i64 1, .int .i64 1000, .int .i64 1001, .int .i64 1000000])], [⟨[.one (.str [49, 46, 48, 46, 49, 46, 46, 49, 46, 49, 46, 48, 32, 124, 32, 49, 46, 49, 46, 49, 46, 46]), .one (.int .i64 0)], [(0, .cells 85 [.int .i64 1, .int .i64 1000, .int .i64 1001, .int .i64 1000000])], 1⟩]⟩
theorem t443 : n443.OK := one_ok [n442, n437, n385, n242] (tcons t442 (tcons t437 (tcons t385 (tcons t242 tnil)))) (by kernel_rfl)
def n444 : Ent := ⟨.fn 45, [.one (.str [98, 47, 118, 49]), .one (.sl 0 0 2 2 .full)], 1, [(0, .cells 85 [.int .i64 1, .int .i64 1000, .int .i64 1001, .int .i64 1000000])], [⟨[.one (.str [49, 46, 48, 46, 49, 46, 46, 49, 46, 49, 46, 48, 32, 124, 32, 49, 46, 49, 46, 49, 46, 46])], [(0, .cells 85 [.int .i64 1, .int .i64 1000, .int .i64 1001, .int .i64 1000000])], 1⟩]⟩
theorem t444 : n444.OK := one_ok [n443, n415] (tcons t443 (tcons t415 tnil)) (by kernel_rfl)
def n445 : Ent := ⟨.fn 44, [.one (.sl 0 0 2 1 .full)], 1, [(0, .cells 9 [.str [98, 47, 118, 49], .str [49, 46, 48, 46, 49, 46, 46, 49, 46, 49, 46, 48, 32, 124, 32, 49, 46, 49, 46, 49, 46, 46]])], [⟨[.one (.str [98, 47, 118, 49, 32, 49, 46, 48, 46, 49, 46, 46, 49, 46, 49, 46, 48, 32, 124, 32, 49, 46, 49, 46, 49, 46, 46])], [(0, .cells 9 [.str [98, 47, 118, 49], .str [49, 46, 48, 46, 49, 46, 46, 49, 46, 49, 46, 48, 32, 124, 32, 49, 46, 49, 46, 49, 46, 46]])], 1⟩]⟩
theorem t445 : n445.OK := one_ok [] tnil (by kernel_rfl)
def n446 : Ent := ⟨.fn 13, [.agg [.str [98, 47, 118, 49], .bool false, .sl 0 0 2 2 .full]], 1, [(0, .cells 85 [.int .i64 1, .int .i64 1000, .int .i64 1001, .int .i64 1000000])], [⟨[.one (.str [98, 47, 118, 49, 32, 49, 46, 48, 46, 49, 46, 46, 49, 46, 49, 46, 48, 32, 124, 32, 49, 46, 49, 46, 49, 46, 46])], [(0, .cells 85 [.int .i64 1, .int .i64 1000, .int .i64 1001, .int .i64 1000000])], 1⟩]⟩
theorem t446 : n446.OK := one_ok [n445, n444] (tcons t445 (tcons t444 tnil)) (by kernel_rfl)
def n447 : Ent := ⟨.fn 44, [.one (.sl 0 0 2 1 .full)], 1, [(0, .cells 9 [.str [98, 47, 118, 49, 32, 49, 46, 48, 46, 49, 46, 46, 49, 46, 49, 46, 48, 32, 124, 32, 49, 46, 49, 46, 49, 46, 46], .str [105, 115, 32, 105, 109, 112, 111, 115, 115, 105, 98, 108, 101]])], [⟨[.one (.str [98, 47, 118, 49, 32, 49, 46, 48, 46, 49, 46, 46, 49, 46, 49, 46, 48, 32, 124, 32, 49, 46, 49, 46, 49, 46, 46, 32, 105, 115, 32, 105, 109, 112, 111, 115, 115, 105, 98, 108, 101])], [(0, .cells 9 [.str [98, 47, 118, 49, 32, 49, 46, 48, 46, 49, 46, 46, 49, 46, 49, 46, 48, 32, 124, 32, 49, 46, 49, 46, 49, 46, 46], .str [105, 115, 32, 105, 109, 112, 111, 115, 115, 105, 98, 108, 101]])], 1⟩]⟩
theorem t447 : n447.OK := one_ok [] tnil (by kernel_rfl)
def n448 : Ent := ⟨.fn 15, [.one (.sl 0 0 1 3 .any)], 2, [(0, .cells 29 [.str [98, 47, 118, 49], .bool false, .sl 1 0 2 2 .full]), (1, .cells 85 [.int .i64 1, .int .i64 1000, .int .i64 1001, .int .i64 1000000])], [⟨[.one (.str [98, 47, 118, 49, 32, 49, 46, 48, 46, 49, 46, 46, 49, 46, 49, 46, 48, 32, 124, 32, 49, 46, 49, 46, 49, 46, 46, 32, 105, 115, 32, 105, 109, 112, 111, 115, 115, 105, 98, 108, 101])], [(0, .cells 29 [.str [98, 47, 118, 49], .bool false, .sl 1 0 2 2 .full]), (1, .cells 85 [.int .i64 1, .int .i64 1000, .int .i64 1001, .int .i64 1000000])], 2⟩]⟩
theorem t448 : n448.OK := one_ok [n447, n446, n269] (tcons t447 (tcons t446 (tcons t269 tnil))) (by kernel_rfl)
def n449 : Ent := ⟨.fn 112, [.agg [.int .i64 2, .str [98, 47, 118, 49], .int .i64 0, .int .i64 0, .int .i64 0, .int .i64 0]], 0, [], [⟨[.one (.str [40, 110, 111, 32, 111, 116, 104, 101, 114, 32, 114, 101, 108, 101, 97, 115, 101, 115, 41])], [], 0⟩]⟩
theorem t449 : n449.OK := one_ok [] tnil (by kernel_rfl)
end -- nc
end Go.Proofs.YtgjbehfdjnekdaaGreatDoor.Xc
end
section
/- A closed run: the calls 450 .. 479, each by those that it makes. PRINTED BY genents.py. -/
set_option maxRecDepth 100000
set_option linter.all false
namespace Go.Proofs.YtgjbehfdjnekdaaGreatDoor.Xc
noncomputable section
open Go.RowKit

def n450 : Ent := ⟨.fn 44, [.one (.sl 0 0 3 1 .full)], 1, [(0, .cells 9 [.str [53, 46], .str [98, 47, 118, 49, 32, 49, 46, 48, 46, 49, 46, 46, 49, 46, 49, 46, 48, 32, 124, 32, 49, 46, 49, 46, 49, 46, 46, 32, 105, 115, 32, 105, 109, 112, 111, 115, 115, 105, 98, 108, 101], .str [40, 110, 111, 32, 111, 116, 104, 101, 114, 32, 114, 101, 108, 101, 97, 115, 101, 115, 41]])], [⟨[.one (.str [53, 46, 32, 98, 47, 118, 49, 32, 49, 46, 48, 46, 49, 46, 46, 49, 46, 49, 46, 48, 32, 124, 32, 49, 46, 49, 46, 49, 46, 46, 32, 105, 115, 32, 105, 109, 112, 111, 115, 115, 105, 98, 108, 101, 32, 40, 110, 111, 32, 111, 116, 104, 101, 114, 32, 114, 101, 108, 101, 97, 115, 101, 115, 41])], [(0, .cells 9 [.str [53, 46], .str [98, 47, 118, 49, 32, 49, 46, 48, 46, 49, 46, 46, 49, 46, 49, 46, 48, 32, 124, 32, 49, 46, 49, 46, 49, 46, 46, 32, 105, 115, 32, 105, 109, 112, 111, 115, 115, 105, 98, 108, 101], .str [40, 110, 111, 32, 111, 116, 104, 101, 114, 32, 114, 101, 108, 101, 97, 115, 101, 115, 41]])], 1⟩]⟩
theorem t450 : n450.OK := one_ok [] tnil (by kernel_rfl)
def n451 : Ent := ⟨.fn 222, [.one (.int .i64 6)], 0, [], [⟨[.one (.str [54])], [], 0⟩]⟩
theorem t451 : n451.OK := one_ok [] tnil (by kernel_rfl)
def n452 : Ent := ⟨.fn 154, [.one (.int .i64 6), .one (.int .i64 10)], 0, [], [⟨[.one (.str [54])], [], 0⟩]⟩
theorem t452 : n452.OK := one_ok [n451] (tcons t451 tnil) (by kernel_rfl)
def n453 : Ent := ⟨.fn 91, [.one (.int .i64 6)], 0, [], [⟨[.one (.str [54])], [], 0⟩]⟩
theorem t453 : n453.OK := one_ok [n452] (tcons t452 tnil) (by kernel_rfl)
def n454 : Ent := ⟨.fn 39, [.one (.int .i64 6)], 0, [], [⟨[.one (.str [54])], [], 0⟩]⟩
theorem t454 : n454.OK := one_ok [n453] (tcons t453 tnil) (by kernel_rfl)
def n455 : Ent := ⟨.fn 44, [.one (.sl 0 0 2 1 .full)], 1, [(0, .cells 9 [.str [97, 47, 118, 49, 32, 49, 46, 48, 46, 48], .str [105, 115, 32, 105, 109, 112, 111, 115, 115, 105, 98, 108, 101]])], [⟨[.one (.str [97, 47, 118, 49, 32, 49, 46, 48, 46, 48, 32, 105, 115, 32, 105, 109, 112, 111, 115, 115, 105, 98, 108, 101])], [(0, .cells 9 [.str [97, 47, 118, 49, 32, 49, 46, 48, 46, 48], .str [105, 115, 32, 105, 109, 112, 111, 115, 115, 105, 98, 108, 101]])], 1⟩]⟩
theorem t455 : n455.OK := one_ok [] tnil (by kernel_rfl)
def n456 : Ent := ⟨.fn 15, [.one (.sl 0 0 1 3 .any)], 2, [(0, .cells 29 [.str [97, 47, 118, 49], .bool false, .sl 1 0 1 2 .full]), (1, .cells 85 [.int .i64 0, .int .i64 1])], [⟨[.one (.str [97, 47, 118, 49, 32, 49, 46, 48, 46, 48, 32, 105, 115, 32, 105, 109, 112, 111, 115, 115, 105, 98, 108, 101])], [(0, .cells 29 [.str [97, 47, 118, 49], .bool false, .sl 1 0 1 2 .full]), (1, .cells 85 [.int .i64 0, .int .i64 1])], 2⟩]⟩
theorem t456 : n456.OK := one_ok [n455, n414, n313] (tcons t455 (tcons t414 (tcons t313 tnil))) (by kernel_rfl)
def n457 : Ent := ⟨.fn 44, [.one (.sl 0 0 4 1 .full)], 1, [(0, .cells 9 [.str [40, 102, 114, 111, 109], .str [52], .str [97, 110, 100], .str [53, 41]])], [⟨[.one (.str [40, 102, 114, 111, 109, 32, 52, 32, 97, 110, 100, 32, 53, 41])], [(0, .cells 9 [.str [40, 102, 114, 111, 109], .str [52], .str [97, 110, 100], .str [53, 41]])], 1⟩]⟩
theorem t457 : n457.OK := one_ok [] tnil (by kernel_rfl)
def n458 : Ent := ⟨.fn 112, [.agg [.int .i64 3, .str [98, 47, 118, 49], .int .i64 0, .int .i64 0, .int .i64 3, .int .i64 4]], 0, [], [⟨[.one (.str [40, 102, 114, 111, 109, 32, 52, 32, 97, 110, 100, 32, 53, 41])], [], 0⟩]⟩
theorem t458 : n458.OK := one_ok [n457, n434, n413] (tcons t457 (tcons t434 (tcons t413 tnil))) (by kernel_rfl)
def n459 : Ent := ⟨.fn 44, [.one (.sl 0 0 3 1 .full)], 1, [(0, .cells 9 [.str [54, 46], .str [97, 47, 118, 49, 32, 49, 46, 48, 46, 48, 32, 105, 115, 32, 105, 109, 112, 111, 115, 115, 105, 98, 108, 101], .str [40, 102, 114, 111, 109, 32, 52, 32, 97, 110, 100, 32, 53, 41]])], [⟨[.one (.str [54, 46, 32, 97, 47, 118, 49, 32, 49, 46, 48, 46, 48, 32, 105, 115, 32, 105, 109, 112, 111, 115, 115, 105, 98, 108, 101, 32, 40, 102, 114, 111, 109, 32, 52, 32, 97, 110, 100, 32, 53, 41])], [(0, .cells 9 [.str [54, 46], .str [97, 47, 118, 49, 32, 49, 46, 48, 46, 48, 32, 105, 115, 32, 105, 109, 112, 111, 115, 115, 105, 98, 108, 101], .str [40, 102, 114, 111, 109, 32, 52, 32, 97, 110, 100, 32, 53, 41]])], 1⟩]⟩
theorem t459 : n459.OK := one_ok [] tnil (by kernel_rfl)
def n460 : Ent := ⟨.fn 222, [.one (.int .i64 7)], 0, [], [⟨[.one (.str [55])], [], 0⟩]⟩
theorem t460 : n460.OK := one_ok [] tnil (by kernel_rfl)
def n461 : Ent := ⟨.fn 154, [.one (.int .i64 7), .one (.int .i64 10)], 0, [], [⟨[.one (.str [55])], [], 0⟩]⟩
theorem t461 : n461.OK := one_ok [n460] (tcons t460 tnil) (by kernel_rfl)
def n462 : Ent := ⟨.fn 91, [.one (.int .i64 7)], 0, [], [⟨[.one (.str [55])], [], 0⟩]⟩
theorem t462 : n462.OK := one_ok [n461] (tcons t461 tnil) (by kernel_rfl)
def n463 : Ent := ⟨.fn 39, [.one (.int .i64 7)], 0, [], [⟨[.one (.str [55])], [], 0⟩]⟩
theorem t463 : n463.OK := one_ok [n462] (tcons t462 tnil) (by kernel_rfl)
def n464 : Ent := ⟨.fn 65, [.one (.nils), .one (.fn0 66)], 0, [], [⟨[.one (.map 0)], [(0, .mp [] 0)], 1⟩]⟩
theorem t464 : n464.OK := one_ok [] tnil (by kernel_rfl)
def n465 : Ent := ⟨.fn 30, [.one (.nils)], 0, [], [⟨[.one (.nils), .one (.bool true)], [], 0⟩]⟩
theorem t465 : n465.OK := one_ok [n337, n464] (tcons t337 (tcons t464 tnil)) (by kernel_rfl)
def n466 : Ent := ⟨.fn 15, [.one (.nils)], 0, [], [⟨[.one (.str [116, 104, 105, 115, 32, 105, 115, 32, 105, 109, 112, 111, 115, 115, 105, 98, 108, 101])], [], 0⟩]⟩
theorem t466 : n466.OK := one_ok [n465] (tcons t465 tnil) (by kernel_rfl)
def n467 : Ent := ⟨.fn 44, [.one (.sl 0 0 4 1 .full)], 1, [(0, .cells 9 [.str [40, 102, 114, 111, 109], .str [51], .str [97, 110, 100], .str [54, 41]])], [⟨[.one (.str [40, 102, 114, 111, 109, 32, 51, 32, 97, 110, 100, 32, 54, 41])], [(0, .cells 9 [.str [40, 102, 114, 111, 109], .str [51], .str [97, 110, 100], .str [54, 41]])], 1⟩]⟩
theorem t467 : n467.OK := one_ok [] tnil (by kernel_rfl)
def n468 : Ent := ⟨.fn 112, [.agg [.int .i64 3, .str [97, 47, 118, 49], .int .i64 0, .int .i64 0, .int .i64 2, .int .i64 5]], 0, [], [⟨[.one (.str [40, 102, 114, 111, 109, 32, 51, 32, 97, 110, 100, 32, 54, 41])], [], 0⟩]⟩
theorem t468 : n468.OK := one_ok [n467, n454, n397] (tcons t467 (tcons t454 (tcons t397 tnil))) (by kernel_rfl)
def n469 : Ent := ⟨.fn 44, [.one (.sl 0 0 3 1 .full)], 1, [(0, .cells 9 [.str [55, 46], .str [116, 104, 105, 115, 32, 105, 115, 32, 105, 109, 112, 111, 115, 115, 105, 98, 108, 101], .str [40, 102, 114, 111, 109, 32, 51, 32, 97, 110, 100, 32, 54, 41]])], [⟨[.one (.str [55, 46, 32, 116, 104, 105, 115, 32, 105, 115, 32, 105, 109, 112, 111, 115, 115, 105, 98, 108, 101, 32, 40, 102, 114, 111, 109, 32, 51, 32, 97, 110, 100, 32, 54, 41])], [(0, .cells 9 [.str [55, 46], .str [116, 104, 105, 115, 32, 105, 115, 32, 105, 109, 112, 111, 115, 115, 105, 98, 108, 101], .str [40, 102, 114, 111, 109, 32, 51, 32, 97, 110, 100, 32, 54, 41]])], 1⟩]⟩
theorem t469 : n469.OK := one_ok [] tnil (by kernel_rfl)
def n470 : Ent := ⟨.fn 24, [.agg [.sl 0 0 3 9 .full, .nils], .one (.sl 3 0 1 2 .full), .one (.sl 5 0 7 6 .full), .one (.int .i64 6)], 6, [(0, .cells 89 [.str [97, 47, 118, 49], .int .i64 1, .int .i64 0, .int .i64 0, .sl 1 0 1 2 .full, .str [], .str [], .str [], .bool false, .str [98, 47, 118, 49], .int .i64 1, .int .i64 0, .int .i64 0, .nils, .str [], .str [], .str [], .bool false, .str [98, 47, 118, 49], .int .i64 1, .int .i64 1, .int .i64 0, .nils, .str [], .str [], .str [], .bool false]), (1, .cells 87 [.str [98, 47, 118, 49], .sl 2 0 1 2 .full]), (2, .cells 85 [.int .i64 2000, .int .i64 1000000]), (3, .cells 87 [.str [97, 47, 118, 49], .sl 4 0 1 2 .full]), (4, .cells 85 [.int .i64 0, .int .i64 1000000]), (5, .cells 73 [.int .i64 0, .str [], .int .i64 0, .int .i64 0, .int .i64 0, .int .i64 0, .int .i64 2, .str [97, 47, 118, 49], .int .i64 0, .int .i64 0, .int .i64 0, .int .i64 0, .int .i64 3, .str [97, 47, 118, 49], .int .i64 0, .int .i64 0, .int .i64 0, .int .i64 1, .int .i64 1, .str [97, 47, 118, 49], .int .i64 0, .int .i64 0, .int .i64 0, .int .i64 0, .int .i64 2, .str [98, 47, 118, 49], .int .i64 0, .int .i64 0, .int .i64 0, .int .i64 0, .int .i64 3, .str [98, 47, 118, 49], .int .i64 0, .int .i64 0, .int .i64 3, .int .i64 4, .int .i64 3, .str [97, 47, 118, 49], .int .i64 0, .int .i64 0, .int .i64 2, .int .i64 5])], [⟨[.one (.sl 6 0 7 1 .any), .one (.int .i64 0)], [(0, .cells 89 [.str [97, 47, 118, 49], .int .i64 1, .int .i64 0, .int .i64 0, .sl 1 0 1 2 .full, .str [], .str [], .str [], .bool false, .str [98, 47, 118, 49], .int .i64 1, .int .i64 0, .int .i64 0, .nils, .str [], .str [], .str [], .bool false, .str [98, 47, 118, 49], .int .i64 1, .int .i64 1, .int .i64 0, .nils, .str [], .str [], .str [], .bool false]), (1, .cells 87 [.str [98, 47, 118, 49], .sl 2 0 1 2 .full]), (2, .cells 85 [.int .i64 2000, .int .i64 1000000]), (3, .cells 87 [.str [97, 47, 118, 49], .sl 4 0 1 2 .full]), (4, .cells 85 [.int .i64 0, .int .i64 1000000]), (5, .cells 73 [.int .i64 0, .str [], .int .i64 0, .int .i64 0, .int .i64 0, .int .i64 0, .int .i64 2, .str [97, 47, 118, 49], .int .i64 0, .int .i64 0, .int .i64 0, .int .i64 0, .int .i64 3, .str [97, 47, 118, 49], .int .i64 0, .int .i64 0, .int .i64 0, .int .i64 1, .int .i64 1, .str [97, 47, 118, 49], .int .i64 0, .int .i64 0, .int .i64 0, .int .i64 0, .int .i64 2, .str [98, 47, 118, 49], .int .i64 0, .int .i64 0, .int .i64 0, .int .i64 0, .int .i64 3, .str [98, 47, 118, 49], .int .i64 0, .int .i64 0, .int .i64 3, .int .i64 4, .int .i64 3, .str [97, 47, 118, 49], .int .i64 0, .int .i64 0, .int .i64 2, .int .i64 5]), (6, .cells 9 [.str [49, 46, 32, 97, 47, 118, 49, 32, 42, 32, 105, 115, 32, 110, 101, 101, 100, 101, 100, 32, 40, 114, 111, 111, 116, 32, 49, 41], .str [50, 46, 32, 97, 47, 118, 49, 32, 49, 46, 48, 46, 49, 46, 46, 32, 105, 115, 32, 105, 109, 112, 111, 115, 115, 105, 98, 108, 101, 32, 40, 110, 111, 32, 111, 116, 104, 101, 114, 32, 114, 101, 108, 101, 97, 115, 101, 115, 41], .str [51, 46, 32, 97, 47, 118, 49, 32, 49, 46, 48, 46, 48, 32, 105, 115, 32, 110, 101, 101, 100, 101, 100, 32, 40, 102, 114, 111, 109, 32, 49, 32, 97, 110, 100, 32, 50, 41], .str [52, 46, 32, 97, 47, 118, 49, 32, 49, 46, 48, 46, 48, 32, 110, 101, 101, 100, 115, 32, 98, 47, 118, 49, 32, 49, 46, 50, 46, 48, 46, 46, 32, 40, 98, 121, 32, 97, 47, 118, 49, 32, 49, 46, 48, 46, 48, 41], .str [53, 46, 32, 98, 47, 118, 49, 32, 49, 46, 48, 46, 49, 46, 46, 49, 46, 49, 46, 48, 32, 124, 32, 49, 46, 49, 46, 49, 46, 46, 32, 105, 115, 32, 105, 109, 112, 111, 115, 115, 105, 98, 108, 101, 32, 40, 110, 111, 32, 111, 116, 104, 101, 114, 32, 114, 101, 108, 101, 97, 115, 101, 115, 41], .str [54, 46, 32, 97, 47, 118, 49, 32, 49, 46, 48, 46, 48, 32, 105, 115, 32, 105, 109, 112, 111, 115, 115, 105, 98, 108, 101, 32, 40, 102, 114, 111, 109, 32, 52, 32, 97, 110, 100, 32, 53, 41], .str [55, 46, 32, 116, 104, 105, 115, 32, 105, 115, 32, 105, 109, 112, 111, 115, 115, 105, 98, 108, 101, 32, 40, 102, 114, 111, 109, 32, 51, 32, 97, 110, 100, 32, 54, 41]])], 7⟩]⟩
theorem t470 : n470.OK := one_ok [n469, n468, n466, n463, n459, n458, n456, n454, n450, n449, n448, n434, n430, n429, n426, n413, n409, n408, n406, n397, n393, n392, n391, n376, n372, n371, n369, n362, n358, n357, n344, n343] (tcons t469 (tcons t468 (tcons t466 (tcons t463 (tcons t459 (tcons t458 (tcons t456 (tcons t454 (tcons t450 (tcons t449 (tcons t448 (tcons t434 (tcons t430 (tcons t429 (tcons t426 (tcons t413 (tcons t409 (tcons t408 (tcons t406 (tcons t397 (tcons t393 (tcons t392 (tcons t391 (tcons t376 (tcons t372 (tcons t371 (tcons t369 (tcons t362 (tcons t358 (tcons t357 (tcons t344 (tcons t343 tnil)))))))))))))))))))))))))))))))) (by kernel_rfl)
def n471 : Ent := ⟨.fn 18, [.one (.sl 0 0 7 6 .full), .one (.int .i64 5)], 1, [(0, .cells 73 [.int .i64 0, .str [], .int .i64 0, .int .i64 0, .int .i64 0, .int .i64 0, .int .i64 2, .str [97, 47, 118, 49], .int .i64 0, .int .i64 0, .int .i64 0, .int .i64 0, .int .i64 3, .str [97, 47, 118, 49], .int .i64 0, .int .i64 0, .int .i64 0, .int .i64 1, .int .i64 1, .str [97, 47, 118, 49], .int .i64 0, .int .i64 0, .int .i64 0, .int .i64 0, .int .i64 2, .str [98, 47, 118, 49], .int .i64 0, .int .i64 0, .int .i64 0, .int .i64 0, .int .i64 3, .str [98, 47, 118, 49], .int .i64 0, .int .i64 0, .int .i64 3, .int .i64 4, .int .i64 3, .str [97, 47, 118, 49], .int .i64 0, .int .i64 0, .int .i64 2, .int .i64 5])], [⟨[.one (.sl 1 0 3 1 .any)], [(0, .cells 73 [.int .i64 0, .str [], .int .i64 0, .int .i64 0, .int .i64 0, .int .i64 0, .int .i64 2, .str [97, 47, 118, 49], .int .i64 0, .int .i64 0, .int .i64 0, .int .i64 0, .int .i64 3, .str [97, 47, 118, 49], .int .i64 0, .int .i64 0, .int .i64 0, .int .i64 1, .int .i64 1, .str [97, 47, 118, 49], .int .i64 0, .int .i64 0, .int .i64 0, .int .i64 0, .int .i64 2, .str [98, 47, 118, 49], .int .i64 0, .int .i64 0, .int .i64 0, .int .i64 0, .int .i64 3, .str [98, 47, 118, 49], .int .i64 0, .int .i64 0, .int .i64 3, .int .i64 4, .int .i64 3, .str [97, 47, 118, 49], .int .i64 0, .int .i64 0, .int .i64 2, .int .i64 5]), (1, .cells 3 [.int .i64 3, .int .i64 4, .int .i64 5])], 2⟩]⟩
theorem t471 : n471.OK := one_ok [] tnil (by kernel_rfl)
def n472 : Ent := ⟨.fn 17, [.one (.sl 0 0 3 1 .any), .one (.sl 1 0 3 1 .full)], 2, [(0, .cells 3 [.int .i64 3, .int .i64 4, .int .i64 5]), (1, .cells 3 [.int .i64 3, .int .i64 4, .int .i64 5])], [⟨[.one (.bool true)], [(0, .cells 3 [.int .i64 3, .int .i64 4, .int .i64 5]), (1, .cells 3 [.int .i64 3, .int .i64 4, .int .i64 5])], 2⟩]⟩
theorem t472 : n472.OK := one_ok [] tnil (by kernel_rfl)
def n473 : Ent := ⟨.fn 18, [.one (.sl 0 0 7 6 .full), .one (.int .i64 2)], 1, [(0, .cells 73 [.int .i64 0, .str [], .int .i64 0, .int .i64 0, .int .i64 0, .int .i64 0, .int .i64 2, .str [97, 47, 118, 49], .int .i64 0, .int .i64 0, .int .i64 0, .int .i64 0, .int .i64 3, .str [97, 47, 118, 49], .int .i64 0, .int .i64 0, .int .i64 0, .int .i64 1, .int .i64 1, .str [97, 47, 118, 49], .int .i64 0, .int .i64 0, .int .i64 0, .int .i64 0, .int .i64 2, .str [98, 47, 118, 49], .int .i64 0, .int .i64 0, .int .i64 0, .int .i64 0, .int .i64 3, .str [98, 47, 118, 49], .int .i64 0, .int .i64 0, .int .i64 3, .int .i64 4, .int .i64 3, .str [97, 47, 118, 49], .int .i64 0, .int .i64 0, .int .i64 2, .int .i64 5])], [⟨[.one (.sl 1 0 3 1 .any)], [(0, .cells 73 [.int .i64 0, .str [], .int .i64 0, .int .i64 0, .int .i64 0, .int .i64 0, .int .i64 2, .str [97, 47, 118, 49], .int .i64 0, .int .i64 0, .int .i64 0, .int .i64 0, .int .i64 3, .str [97, 47, 118, 49], .int .i64 0, .int .i64 0, .int .i64 0, .int .i64 1, .int .i64 1, .str [97, 47, 118, 49], .int .i64 0, .int .i64 0, .int .i64 0, .int .i64 0, .int .i64 2, .str [98, 47, 118, 49], .int .i64 0, .int .i64 0, .int .i64 0, .int .i64 0, .int .i64 3, .str [98, 47, 118, 49], .int .i64 0, .int .i64 0, .int .i64 3, .int .i64 4, .int .i64 3, .str [97, 47, 118, 49], .int .i64 0, .int .i64 0, .int .i64 2, .int .i64 5]), (1, .cells 3 [.int .i64 0, .int .i64 1, .int .i64 2])], 2⟩]⟩
theorem t473 : n473.OK := one_ok [] tnil (by kernel_rfl)
def n474 : Ent := ⟨.fn 54, [.one (.sl 0 0 3 1 .any), .one (.int .i64 0)], 1, [(0, .cells 3 [.int .i64 0, .int .i64 1, .int .i64 2])], [⟨[.one (.int .i64 0)], [(0, .cells 3 [.int .i64 0, .int .i64 1, .int .i64 2])], 1⟩]⟩
theorem t474 : n474.OK := one_ok [] tnil (by kernel_rfl)
def n475 : Ent := ⟨.fn 53, [.one (.int .i64 0), .one (.ptr 0 0)], 2, [(0, .cells 34 [.sl 1 0 3 1 .any]), (1, .cells 3 [.int .i64 0, .int .i64 1, .int .i64 2])], [⟨[.one (.int .i64 0)], [(0, .cells 34 [.sl 1 0 3 1 .any]), (1, .cells 3 [.int .i64 0, .int .i64 1, .int .i64 2])], 2⟩]⟩
theorem t475 : n475.OK := one_ok [n474] (tcons t474 tnil) (by kernel_rfl)
def n476 : Ent := ⟨.fn 54, [.one (.sl 0 0 3 1 .any), .one (.int .i64 1)], 1, [(0, .cells 3 [.int .i64 0, .int .i64 1, .int .i64 2])], [⟨[.one (.int .i64 1)], [(0, .cells 3 [.int .i64 0, .int .i64 1, .int .i64 2])], 1⟩]⟩
theorem t476 : n476.OK := one_ok [] tnil (by kernel_rfl)
def n477 : Ent := ⟨.fn 53, [.one (.int .i64 1), .one (.ptr 0 0)], 2, [(0, .cells 34 [.sl 1 0 3 1 .any]), (1, .cells 3 [.int .i64 0, .int .i64 1, .int .i64 2])], [⟨[.one (.int .i64 1)], [(0, .cells 34 [.sl 1 0 3 1 .any]), (1, .cells 3 [.int .i64 0, .int .i64 1, .int .i64 2])], 2⟩]⟩
theorem t477 : n477.OK := one_ok [n476] (tcons t476 tnil) (by kernel_rfl)
def n478 : Ent := ⟨.fn 21, [.one (.sl 0 0 7 6 .full), .one (.int .i64 2)], 1, [(0, .cells 73 [.int .i64 0, .str [], .int .i64 0, .int .i64 0, .int .i64 0, .int .i64 0, .int .i64 2, .str [97, 47, 118, 49], .int .i64 0, .int .i64 0, .int .i64 0, .int .i64 0, .int .i64 3, .str [97, 47, 118, 49], .int .i64 0, .int .i64 0, .int .i64 0, .int .i64 1, .int .i64 1, .str [97, 47, 118, 49], .int .i64 0, .int .i64 0, .int .i64 0, .int .i64 0, .int .i64 2, .str [98, 47, 118, 49], .int .i64 0, .int .i64 0, .int .i64 0, .int .i64 0, .int .i64 3, .str [98, 47, 118, 49], .int .i64 0, .int .i64 0, .int .i64 3, .int .i64 4, .int .i64 3, .str [97, 47, 118, 49], .int .i64 0, .int .i64 0, .int .i64 2, .int .i64 5])], [⟨[.one (.sl 1 0 3 6 .any)], [(0, .cells 73 [.int .i64 0, .str [], .int .i64 0, .int .i64 0, .int .i64 0, .int .i64 0, .int .i64 2, .str [97, 47, 118, 49], .int .i64 0, .int .i64 0, .int .i64 0, .int .i64 0, .int .i64 3, .str [97, 47, 118, 49], .int .i64 0, .int .i64 0, .int .i64 0, .int .i64 1, .int .i64 1, .str [97, 47, 118, 49], .int .i64 0, .int .i64 0, .int .i64 0, .int .i64 0, .int .i64 2, .str [98, 47, 118, 49], .int .i64 0, .int .i64 0, .int .i64 0, .int .i64 0, .int .i64 3, .str [98, 47, 118, 49], .int .i64 0, .int .i64 0, .int .i64 3, .int .i64 4, .int .i64 3, .str [97, 47, 118, 49], .int .i64 0, .int .i64 0, .int .i64 2, .int .i64 5]), (1, .cells 73 [.int .i64 0, .str [], .int .i64 0, .int .i64 0, .int .i64 0, .int .i64 0, .int .i64 2, .str [97, 47, 118, 49], .int .i64 0, .int .i64 0, .int .i64 0, .int .i64 0, .int .i64 3, .str [97, 47, 118, 49], .int .i64 0, .int .i64 0, .int .i64 0, .int .i64 1])], 2⟩]⟩
theorem t478 : n478.OK := one_ok [n477, n475, n473] (tcons t477 (tcons t475 (tcons t473 tnil))) (by kernel_rfl)
def n479 : Ent := ⟨.fn 11, [], 0, [], [⟨[.one (.bool true)], [], 0⟩]⟩
theorem t479 : n479.OK := one_ok [n478, n472, n471, n470] (tcons t478 (tcons t472 (tcons t471 (tcons t470 tnil)))) (by kernel_rfl)
end -- nc
end Go.Proofs.YtgjbehfdjnekdaaGreatDoor.Xc
end
section
/- awake answers true. -/
namespace Go.Proofs.YtgjbehfdjnekdaaGreatDoor.Xc
open Go.RowKit
open Go.Proofs.YtgjbehfdjnekdaaGreatDoor.Aw (Kept retv)
theorem awake_calls (w : World) (hG : GL w) : Calls Tryz.prog 11 #[] w fun e w' => e = .returned (.bool true) ∧ Kept (fun _ _ => False) w w' := by
  have h : XC Tryz.prog (.fn 11) [] 0 [] [⟨[.one (.bool true)], [], 0⟩] := t479
  refine (h w ⟨fun _ => .nilFunc, fun _ => 0⟩ [] ⟨fun n x h => (by cases h), fun n m x y b h => (by cases h), fun n x b h => (by cases h), hG⟩ ⟨rfl, fun i p v h => (by simp at h)⟩).mono fun e w' hx => ?_
  obtain ⟨out, ho, E', rs, he, _, _, hp, _, hk, _⟩ := hx
  have := List.mem_singleton.1 ho; subst this
  obtain ⟨hl, hr⟩ := hp
  match rs, hl with
  | [v], _ =>
    have := hr 0 (.one (.bool true)) v rfl rfl
    cases this
    exact ⟨he, hk.mono fun b q ⟨n, x, h, _⟩ => by cases h⟩
  | [], hl => simp at hl
  | _ :: _ :: _, hl => simp at hl
end Go.Proofs.YtgjbehfdjnekdaaGreatDoor.Xc
#print axioms Go.Proofs.YtgjbehfdjnekdaaGreatDoor.Xc.awake_calls
end
section
/- What is owed by a call that only lays new blocks behind the heap (some of them may be frozen). -/
namespace Go.Proofs.YtgjbehfdjnekdaaGreatDoor.Xc
open Go Go.RowKit Go.Proofs Go.ChangeShapes Go.WideShapes
open Go.Proofs.YtgjbehfdjnekdaaGreatDoor.Aw (Kept)
variable {P : Program} {H : Type} {enc : TypeId × Value → H}
theorem Kept.toBelow {W W' : World} (h : Kept (fun _ _ => False) W W') : Below W.heap.size W W' := ⟨h.os, h.tape, h.output, h.size, fun k hk => h.blk k hk fun _ => id⟩
theorem post_of_below {f : Func} {s : ChangeSpec} {apart fresh handsOn again : Bool} {W W' : World} {args : Array Value} {v : Value} {ds gs : List (DataW H)} {before pa pv : List MemPlace}
    (hW : DataW.Whole enc P f.params.toList s.vars apart W args.toList ds gs before)
    (hres : ∀ (b : Nat) (sp : Nat → Bool) (hd : Bool), DataW.TrodAll enc P W' b sp hd f.resultTypes.toList (v.resultList f.resultTypes.size) (s.fn H (ds ++ gs)).results [])
    (hargs : ∀ sp : Nat → Bool, (∀ p ∈ before, sp p.block = true) → DataW.TrodAll enc P W' 0 sp true f.params.toList args.toList (s.fn H (ds ++ gs)).args pa)
    (hvars : ∀ sp : Nat → Bool, (∀ p ∈ before, sp p.block = true) → DataW.TrodVars enc P W' sp s.vars (s.fn H (ds ++ gs)).vars pv)
    (hps : before = pa ++ pv) (hb : Below W.heap.size W W')
    (hok : ∀ (j : Nat) (t : TypeId) (r : Value), f.resultTypes[j]? = some t → (v.resultList f.resultTypes.size)[j]? = some r → Value.okWide P W' .any 0 t r) :
    s.post enc P f apart fresh handsOn again W args v W' := by
  have hlt : ∀ p ∈ before, p.block < W.heap.size := fun p hp => hW.lt p hp
  have hold : ∀ p ∈ before, (fun b => decide (b < W.heap.size)) p.block = true := fun p hp => by simpa using hlt p hp
  refine ⟨ds, gs, before, [], pa, pv, hW, hres _ _ _, hargs _ hold, hvars _ hold, World.keptBut_mono (fun p hp => ⟨hp, ?_⟩) (hb.frame (· ∈ before)), fun _ => ?_⟩
  · rw [hps, List.mem_append] at hp
    exact Or.inr hp
  · obtain ⟨_, _, _, _, _, hz, hn⟩ := hW
    refine ⟨hok, _, _, ([] ++ pa) ++ pv, ⟨[] ++ pa, pv, trodAll_append (hargs _ (fun _ _ => rfl)) (hres _ _ _), hvars _ (fun _ _ => rfl), rfl, ?_, ?_⟩, ?_⟩
    · intro b off hp
      have hm : _ ∈ before := (by rw [hps]; simpa using hp)
      have h0 := hz b off hm
      rw [hb.frozen (hlt _ hm)]
      exact h0
    · intro ha
      have := hn ha
      rw [hps] at this
      simpa using this
    · intro p hp _
      rw [hps]
      simpa using hp
end Go.Proofs.YtgjbehfdjnekdaaGreatDoor.Xc
end
