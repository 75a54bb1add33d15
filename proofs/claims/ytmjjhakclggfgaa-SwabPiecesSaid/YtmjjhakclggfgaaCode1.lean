/- The code of the functions, made ready for running. -/
import Derived.Test.YtmjjhakclggfgaaVc5
import Derived.Test.YtmjjhakclggfgaaProg
import Derived.KernelRfl
namespace Go.Proofs.Ytmjjhakclggfgaa.Abs
open Go Go.Proofs
set_option maxRecDepth 100000
/-- salvor/salvorlaw6.SwabRuns -/
def rc_3 : RC :=
  .reg [⟨false, none, .mov (.c (.bool false)), some 0⟩] (.reg [⟨false, none, .call 7 [.c (.bool true)], some 5⟩,
  ⟨false, none, .mov (.t 5), some 1⟩] (.reg [⟨false, none, .mov (.t 1), some 6⟩,
  ⟨false, none, .eqp false (.t 6) (.c (.ptr none)), some 7⟩] (.cond (.t 7) (.reg [⟨false, none, .mov (.c (.bool false)), some 0⟩] (.ret)) (.nop) (.reg [⟨false, none, .mov (.t 1), some 8⟩,
  ⟨false, none, .mkSl false 1 3 (.int .u8 0) [(0, .c (.int .u8 1)), (1, .c (.int .u8 2)), (2, .c (.int .u8 3))], some 9⟩,
  ⟨false, none, .call 8 [.t 8, .t 9], some 10⟩,
  ⟨false, none, .mov (.t 1), some 11⟩,
  ⟨false, none, .mkSl false 1 1 (.int .u8 0) [(0, .c (.int .u8 4))], some 12⟩,
  ⟨false, none, .call 8 [.t 11, .t 12], some 13⟩,
  ⟨false, none, .mov (.t 1), some 14⟩,
  ⟨false, none, .call 9 [.t 14], some 15⟩,
  ⟨false, none, .mov (.t 10), some 2⟩,
  ⟨false, none, .mov (.t 13), some 3⟩,
  ⟨false, none, .mov (.t 15), some 4⟩] (.reg [⟨false, none, .mov (.t 2), some 16⟩,
  ⟨false, none, .toStr (.t 16), some 17⟩,
  ⟨false, none, .bin .eql (.t 17) (.c (.str [2, 1])), some 18⟩,
  ⟨false, none, .mov (.t 18), some 19⟩,
  ⟨false, (some (19, true)), .mov (.t 3), some 20⟩,
  ⟨false, (some (19, true)), .toStr (.t 20), some 21⟩,
  ⟨false, (some (19, true)), .bin .eql (.t 21) (.c (.str [4, 3])), some 22⟩,
  ⟨false, none, .pick (.t 19) (.t 22) (.c (.bool false)), some 23⟩,
  ⟨false, none, .mov (.t 23), some 24⟩,
  ⟨false, (some (24, true)), .mov (.t 4), some 25⟩,
  ⟨false, (some (24, true)), .len (.t 25), some 26⟩,
  ⟨false, (some (24, true)), .bin .eql (.t 26) (.c (.int .i64 0)), some 27⟩,
  ⟨false, none, .pick (.t 24) (.t 27) (.c (.bool false)), some 28⟩,
  ⟨false, none, .mov (.t 28), some 0⟩] (.ret))))))
def hn_3 : Hn := { M := { own := fun _ => false, rb := fun _ => none, ord := fun _ => [] }, live := fun _ => [], ms := [] }
theorem kr_3 : rdy Try.prog hn_3 Try.f3 = some (rc_3, [.t 0], 29) := by kernel_rfl
theorem enA_3 : enterA Try.prog 3 = true := by kernel_rfl
theorem en_3 {args : List AV} {K : AV → ASt → Prop} {S : ASt} (hl : args.length ≤ 29) (h : wpR Try.prog rc_3 (bodyQ [.t 0] K) (argF 0 args) S) : ACalls Try.prog 3 args S K := ACalls.of Try.func3 enA_3 kr_3 hl h

/-- salvor/salvorlaw6.SwabPlays -/
def rc_4 : RC :=
  .reg [⟨false, none, .mov (.c (.bool false)), some 6⟩] (.reg [⟨false, none, .mov (.t 1), some 10⟩,
  ⟨false, none, .call 10 [.t 10], some 11⟩,
  ⟨false, none, .not (.t 11), some 12⟩] (.cond (.t 12) (.reg [⟨false, none, .call 3 [], some 13⟩,
  ⟨false, none, .mov (.t 13), some 6⟩] (.ret)) (.nop) (.reg [⟨false, none, .mov (.t 0), some 14⟩,
  ⟨false, none, .call 7 [.t 14], some 15⟩,
  ⟨false, none, .mov (.t 0), some 16⟩,
  ⟨false, none, .build ([.bool false, .sl .nil 0 []]) [(0, 1), (1, 1)] [(0, .t 16)], some 17⟩,
  ⟨false, none, .box (.t 17), some 18⟩,
  ⟨false, none, .mov (.t 15), some 7⟩,
  ⟨false, none, .mov (.t 18), some 8⟩] (.reg [⟨false, none, .mov (.t 7), some 19⟩,
  ⟨false, none, .eqp false (.t 19) (.c (.ptr none)), some 20⟩] (.cond (.t 20) (.reg [⟨false, none, .mov (.c (.bool false)), some 6⟩] (.ret)) (.nop) (.reg [⟨false, none, .mov (.c (.int .i64 0)), some 9⟩] (.block 0 (.loop [1, 2, 7, 8, 9, 47, 48, 49, 50, 53, 54, 55, 56, 57, 58, 59, 69, 70, 71, 72, 75] (.reg [⟨false, none, .mov (.t 9), some 21⟩,
  ⟨false, none, .mov (.t 1), some 22⟩,
  ⟨false, none, .len (.t 22), some 23⟩,
  ⟨false, none, .bin .lss (.t 21) (.t 23), some 24⟩] (.cond (.t 24) (.nop) (.exit 0) (.block 1 (.reg [⟨false, none, .mov (.t 7), some 27⟩,
  ⟨false, none, .mov (.t 1), some 28⟩,
  ⟨false, none, .mov (.t 9), some 29⟩,
  ⟨false, none, .idx 1 (.t 28) (.t 29), some 30⟩,
  ⟨false, none, .load (.t 30), some 31⟩,
  ⟨false, none, .mov (.t 8), some 34⟩,
  ⟨false, none, .mov (.t 1), some 35⟩,
  ⟨false, none, .mov (.t 9), some 36⟩,
  ⟨false, none, .idx 1 (.t 35) (.t 36), some 37⟩,
  ⟨false, none, .load (.t 37), some 38⟩,
  ⟨false, none, .call 8 [.t 27, .t 31], some 32⟩,
  ⟨true, none, .load (.t 37), some 38⟩,
  ⟨true, none, .idx 1 (.t 35) (.t 36), some 37⟩,
  ⟨false, none, .toStr (.t 32), some 33⟩,
  ⟨false, none, .call 11 [.t 34, .t 38], some 39⟩,
  ⟨true, none, .toStr (.t 32), some 33⟩,
  ⟨false, none, .toStr (.t 39), some 40⟩,
  ⟨false, none, .bin .neq (.t 33) (.t 40), some 41⟩] (.cond (.t 41) (.reg [⟨false, none, .mov (.c (.bool false)), some 6⟩] (.ret)) (.nop) (.reg [⟨false, none, .mov (.t 9), some 42⟩,
  ⟨false, none, .mov (.t 2), some 43⟩,
  ⟨false, none, .len (.t 43), some 44⟩,
  ⟨false, none, .bin .lss (.t 42) (.t 44), some 45⟩,
  ⟨false, none, .mov (.t 45), some 46⟩,
  ⟨false, (some (46, true)), .mov (.t 2), some 47⟩,
  ⟨false, (some (46, true)), .mov (.t 9), some 48⟩,
  ⟨false, (some (46, true)), .idx 1 (.t 47) (.t 48), some 49⟩,
  ⟨false, (some (46, true)), .load (.t 49), some 50⟩,
  ⟨false, none, .pick (.t 46) (.t 50) (.c (.bool false)), some 51⟩,
  ⟨false, none, .mov (.t 51), some 52⟩,
  ⟨false, (some (52, true)), .mov (.t 7), some 53⟩,
  ⟨false, (some (52, true)), .mov (.t 8), some 56⟩,
  ⟨false, (some (52, true)), .call 9 [.t 53], some 54⟩,
  ⟨false, (some (52, true)), .toStr (.t 54), some 55⟩,
  ⟨false, (some (52, true)), .call 12 [.t 56], some 57⟩,
  ⟨true, (some (52, true)), .toStr (.t 54), some 55⟩,
  ⟨false, (some (52, true)), .toStr (.t 57), some 58⟩,
  ⟨false, (some (52, true)), .bin .neq (.t 55) (.t 58), some 59⟩,
  ⟨false, none, .pick (.t 52) (.t 59) (.c (.bool false)), some 60⟩] (.cond (.t 60) (.reg [⟨false, none, .mov (.c (.bool false)), some 6⟩] (.ret)) (.nop) (.nop))))) (.reg [⟨false, none, .mov (.t 9), some 25⟩,
  ⟨false, none, .bin .add (.t 25) (.c (.int .i64 1)), some 26⟩,
  ⟨false, none, .mov (.t 26), some 9⟩] (.nop)))))) (.reg [⟨false, none, .mov (.t 7), some 61⟩,
  ⟨false, none, .mov (.t 8), some 64⟩,
  ⟨false, none, .call 9 [.t 61], some 62⟩,
  ⟨false, none, .toStr (.t 62), some 63⟩,
  ⟨false, none, .call 12 [.t 64], some 65⟩,
  ⟨true, none, .toStr (.t 62), some 63⟩,
  ⟨false, none, .toStr (.t 65), some 66⟩,
  ⟨false, none, .bin .eql (.t 63) (.t 66), some 67⟩,
  ⟨false, none, .mov (.t 67), some 68⟩,
  ⟨false, (some (68, true)), .mov (.t 7), some 69⟩,
  ⟨false, (some (68, true)), .call 9 [.t 69], some 70⟩,
  ⟨false, (some (68, true)), .len (.t 70), some 71⟩,
  ⟨false, (some (68, true)), .bin .eql (.t 71) (.c (.int .i64 0)), some 72⟩,
  ⟨false, none, .pick (.t 68) (.t 72) (.c (.bool false)), some 73⟩,
  ⟨false, none, .mov (.t 73), some 74⟩,
  ⟨false, (some (74, true)), .call 3 [], some 75⟩,
  ⟨false, none, .pick (.t 74) (.t 75) (.c (.bool false)), some 76⟩,
  ⟨false, none, .mov (.t 76), some 6⟩] (.ret)))))))))
def hn_4 : Hn := { M := { own := fun _ => false, rb := fun _ => none, ord := fun r => if r = 9 then [0, 1, 2, 3, 4, 7, 8, 9, 10, 11, 5, 6, 12, 13, 14] else if r = 11 then [0, 1, 2, 3, 4, 5, 6, 7, 8, 9, 10, 11, 14, 12, 13, 15, 16, 17, 18] else if r = 13 then [0, 3, 1, 2, 4, 5, 6, 7, 8, 9, 10, 11, 12, 13, 14, 15, 16] else [] }, live := fun r => if r = 7 then [1, 2, 7, 8, 9, 47, 48, 49, 50, 53, 54, 55, 56, 57, 58, 59, 69, 70, 71, 72, 75] else [], ms := [] }
theorem kr_4 : rdy Try.prog hn_4 Try.f4 = some (rc_4, [.t 6], 77) := by kernel_rfl
theorem enA_4 : enterA Try.prog 4 = true := by kernel_rfl
theorem en_4 {args : List AV} {K : AV → ASt → Prop} {S : ASt} (hl : args.length ≤ 77) (h : wpR Try.prog rc_4 (bodyQ [.t 6] K) (argF 0 args) S) : ACalls Try.prog 4 args S K := ACalls.of Try.func4 enA_4 kr_4 hl h

/-- salvor/salvorlaw6.SwabPieces -/
def rc_5 : RC :=
  .reg [⟨false, none, .mov (.c (.bool false)), some 4⟩] (.reg [⟨false, none, .mov (.t 1), some 9⟩,
  ⟨false, none, .call 10 [.t 9], some 10⟩,
  ⟨false, none, .not (.t 10), some 11⟩] (.cond (.t 11) (.reg [⟨false, none, .call 3 [], some 12⟩,
  ⟨false, none, .mov (.t 12), some 4⟩] (.ret)) (.nop) (.reg [⟨false, none, .mov (.c (.sl .nil 0 [])), some 5⟩] (.reg [⟨false, none, .mov (.c (.int .i64 0)), some 6⟩] (.block 0 (.loop [0, 1, 5, 6, 36, 37, 38, 39, 40, 43, 44, 45, 46, 47, 48, 49, 52] (.reg [⟨false, none, .mov (.t 6), some 13⟩,
  ⟨false, none, .mov (.t 1), some 14⟩,
  ⟨false, none, .len (.t 14), some 15⟩,
  ⟨false, none, .bin .lss (.t 13) (.t 15), some 16⟩] (.cond (.t 16) (.nop) (.exit 0) (.block 1 (.reg [⟨false, none, .mov (.t 5), some 19⟩,
  ⟨false, none, .mov (.t 1), some 20⟩,
  ⟨false, none, .mov (.t 6), some 21⟩,
  ⟨false, none, .idx 1 (.t 20) (.t 21), some 22⟩,
  ⟨false, none, .load (.t 22), some 23⟩,
  ⟨false, none, .app 1 (.t 19) (.t 23), some 24⟩,
  ⟨false, none, .mov (.t 24), some 5⟩] (.nop)) (.reg [⟨false, none, .mov (.t 6), some 17⟩,
  ⟨false, none, .bin .add (.t 17) (.c (.int .i64 1)), some 18⟩,
  ⟨false, none, .mov (.t 18), some 6⟩] (.nop)))))) (.reg [⟨false, none, .mov (.t 0), some 25⟩,
  ⟨false, none, .mov (.t 1), some 26⟩,
  ⟨false, none, .call 13 [.t 25, .t 26], some 27⟩,
  ⟨false, none, .mov (.t 0), some 28⟩,
  ⟨false, none, .mov (.t 5), some 29⟩,
  ⟨false, none, .mkSl false 1 1 (.sl .nil 0 []) [(0, .t 29)], some 30⟩,
  ⟨false, none, .call 13 [.t 28, .t 30], some 31⟩,
  ⟨false, none, .mov (.t 27), some 7⟩,
  ⟨false, none, .mov (.t 31), some 8⟩] (.reg [⟨false, none, .mov (.t 7), some 32⟩,
  ⟨false, none, .mov (.t 8), some 33⟩,
  ⟨false, none, .bin .eql (.t 32) (.t 33), some 34⟩,
  ⟨false, none, .mov (.t 34), some 35⟩,
  ⟨false, (some (35, true)), .mov (.t 7), some 36⟩,
  ⟨false, (some (35, true)), .lenS (.t 36), some 37⟩,
  ⟨false, (some (35, true)), .mov (.t 5), some 38⟩,
  ⟨false, (some (35, true)), .len (.t 38), some 39⟩,
  ⟨false, (some (35, true)), .bin .eql (.t 37) (.t 39), some 40⟩,
  ⟨false, none, .pick (.t 35) (.t 40) (.c (.bool false)), some 41⟩,
  ⟨false, none, .mov (.t 41), some 42⟩,
  ⟨false, (some (42, true)), .mov (.t 0), some 43⟩,
  ⟨false, (some (42, true)), .mov (.t 43), some 44⟩,
  ⟨false, (some (44, false)), .mov (.t 7), some 45⟩,
  ⟨false, (some (44, false)), .mov (.t 5), some 46⟩,
  ⟨false, (some (44, false)), .toStr (.t 46), some 47⟩,
  ⟨false, (some (44, false)), .bin .eql (.t 45) (.t 47), some 48⟩,
  ⟨false, (some (42, true)), .pick (.t 44) (.c (.bool true)) (.t 48), some 49⟩,
  ⟨false, none, .pick (.t 42) (.t 49) (.c (.bool false)), some 50⟩,
  ⟨false, none, .mov (.t 50), some 51⟩,
  ⟨false, (some (51, true)), .call 3 [], some 52⟩,
  ⟨false, none, .pick (.t 51) (.t 52) (.c (.bool false)), some 53⟩,
  ⟨false, none, .mov (.t 53), some 4⟩] (.ret))))))))
def hn_5 : Hn := { M := { own := fun _ => false, rb := fun _ => none, ord := fun _ => [] }, live := fun r => if r = 5 then [0, 1, 5, 6, 36, 37, 38, 39, 40, 43, 44, 45, 46, 47, 48, 49, 52] else [], ms := [] }
theorem kr_5 : rdy Try.prog hn_5 Try.f5 = some (rc_5, [.t 4], 54) := by kernel_rfl
theorem enA_5 : enterA Try.prog 5 = true := by kernel_rfl
theorem en_5 {args : List AV} {K : AV → ASt → Prop} {S : ASt} (hl : args.length ≤ 54) (h : wpR Try.prog rc_5 (bodyQ [.t 4] K) (argF 0 args) S) : ACalls Try.prog 5 args S K := ACalls.of Try.func5 enA_5 kr_5 hl h

/-- salvor/salvorlaw6.SwabTwice -/
def rc_6 : RC :=
  .reg [⟨false, none, .mov (.c (.bool false)), some 2⟩] (.reg [⟨false, none, .mov (.t 0), some 6⟩,
  ⟨false, none, .len (.t 6), some 7⟩,
  ⟨false, none, .bin .gtr (.t 7) (.c (.int .i64 3000)), some 8⟩] (.cond (.t 8) (.reg [⟨false, none, .call 3 [], some 9⟩,
  ⟨false, none, .mov (.t 9), some 2⟩] (.ret)) (.nop) (.reg [⟨false, none, .mov (.t 0), some 10⟩,
  ⟨false, none, .mkSl false 1 1 (.sl .nil 0 []) [(0, .t 10)], some 11⟩,
  ⟨false, none, .call 13 [.c (.bool true), .t 11], some 12⟩,
  ⟨false, none, .mov (.t 12), some 3⟩] (.reg [⟨false, none, .mov (.t 3), some 13⟩,
  ⟨false, none, .lenS (.t 13), some 14⟩,
  ⟨false, none, .mov (.t 0), some 15⟩,
  ⟨false, none, .len (.t 15), some 16⟩,
  ⟨false, none, .bin .neq (.t 14) (.t 16), some 17⟩,
  ⟨false, none, .mov (.t 17), some 18⟩,
  ⟨false, (some (18, false)), .mov (.t 3), some 19⟩,
  ⟨false, (some (18, false)), .toSl (.t 19), some 20⟩,
  ⟨false, (some (18, false)), .mkSl false 1 1 (.sl .nil 0 []) [(0, .t 20)], some 21⟩,
  ⟨false, (some (18, false)), .mov (.t 0), some 23⟩,
  ⟨false, (some (18, false)), .toStr (.t 23), some 24⟩,
  ⟨false, (some (18, false)), .call 13 [.c (.bool true), .t 21], some 22⟩,
  ⟨true, (some (18, false)), .toStr (.t 23), some 24⟩,
  ⟨false, (some (18, false)), .bin .neq (.t 22) (.t 24), some 25⟩,
  ⟨false, none, .pick (.t 18) (.c (.bool true)) (.t 25), some 26⟩] (.cond (.t 26) (.reg [⟨false, none, .mov (.c (.bool false)), some 2⟩] (.ret)) (.nop) (.reg [⟨false, none, .mov (.c (.int .i64 0)), some 4⟩] (.block 0 (.loop [0, 3, 4] (.reg [⟨false, none, .mov (.t 4), some 27⟩,
  ⟨false, none, .mov (.t 0), some 28⟩,
  ⟨false, none, .len (.t 28), some 29⟩,
  ⟨false, none, .bin .lss (.t 27) (.t 29), some 30⟩] (.cond (.t 30) (.nop) (.exit 0) (.block 1 (.reg [⟨false, none, .mov (.t 4), some 33⟩,
  ⟨false, none, .bin .xor (.t 33) (.c (.int .i64 1)), some 34⟩,
  ⟨false, none, .mov (.t 34), some 5⟩] (.reg [⟨false, none, .mov (.t 5), some 35⟩,
  ⟨false, none, .mov (.t 0), some 36⟩,
  ⟨false, none, .len (.t 36), some 37⟩,
  ⟨false, none, .bin .geq (.t 35) (.t 37), some 38⟩] (.cond (.t 38) (.reg [⟨false, none, .mov (.t 4), some 39⟩,
  ⟨false, none, .mov (.t 39), some 5⟩] (.nop)) (.nop) (.reg [⟨false, none, .mov (.t 3), some 40⟩,
  ⟨false, none, .mov (.t 5), some 41⟩,
  ⟨false, none, .ixS (.t 40) (.t 41), some 42⟩,
  ⟨false, none, .mov (.t 0), some 43⟩,
  ⟨false, none, .mov (.t 4), some 44⟩,
  ⟨false, none, .idx 1 (.t 43) (.t 44), some 45⟩,
  ⟨false, none, .load (.t 45), some 46⟩,
  ⟨false, none, .bin .neq (.t 42) (.t 46), some 47⟩] (.cond (.t 47) (.reg [⟨false, none, .mov (.c (.bool false)), some 2⟩] (.ret)) (.nop) (.nop)))))) (.reg [⟨false, none, .mov (.t 4), some 31⟩,
  ⟨false, none, .bin .add (.t 31) (.c (.int .i64 1)), some 32⟩,
  ⟨false, none, .mov (.t 32), some 4⟩] (.nop)))))) (.reg [⟨false, none, .call 3 [], some 48⟩,
  ⟨false, none, .mov (.t 48), some 2⟩] (.ret)))))))))
def hn_6 : Hn := { M := { own := fun _ => false, rb := fun _ => none, ord := fun r => if r = 4 then [0, 1, 2, 3, 4, 5, 6, 7, 8, 10, 11, 9, 12, 13] else if r = 12 then [0, 1, 2, 3, 4, 5, 6, 7] else [] }, live := fun r => if r = 7 then [0, 3, 4] else [], ms := [] }
theorem kr_6 : rdy Try.prog hn_6 Try.f6 = some (rc_6, [.t 2], 49) := by kernel_rfl
theorem enA_6 : enterA Try.prog 6 = true := by kernel_rfl
theorem en_6 {args : List AV} {K : AV → ASt → Prop} {S : ASt} (hl : args.length ≤ 49) (h : wpR Try.prog rc_6 (bodyQ [.t 2] K) (argF 0 args) S) : ACalls Try.prog 6 args S K := ACalls.of Try.func6 enA_6 kr_6 hl h

/-- salvor/swab.New -/
def rc_7 : RC :=
  .reg [⟨false, none, .mov (.c (.ptr none)), some 2⟩] (.reg [⟨false, none, .mov (.t 0), some 3⟩,
  ⟨false, none, .build ([.bool false, .sl .nil 0 []]) [(0, 1), (1, 1)] [(0, .t 3)], some 4⟩,
  ⟨false, none, .box (.t 4), some 5⟩,
  ⟨false, none, .mov (.t 5), some 2⟩] (.ret))
def hn_7 : Hn := { M := { own := fun _ => false, rb := fun _ => none, ord := fun _ => [] }, live := fun _ => [], ms := [] }
theorem kr_7 : rdy Try.prog hn_7 Try.f7 = some (rc_7, [.t 2], 6) := by kernel_rfl
theorem enA_7 : enterA Try.prog 7 = true := by kernel_rfl
theorem en_7 {args : List AV} {K : AV → ASt → Prop} {S : ASt} (hl : args.length ≤ 6) (h : wpR Try.prog rc_7 (bodyQ [.t 2] K) (argF 0 args) S) : ACalls Try.prog 7 args S K := ACalls.of Try.func7 enA_7 kr_7 hl h

/-- (*salvor/swab.Swab).Put -/
def rc_8 : RC :=
  .reg [⟨false, none, .mov (.c (.sl .nil 0 [])), some 4⟩] (.reg [⟨false, none, .mov (.t 0), some 7⟩,
  ⟨false, none, .nck (.t 7), some 8⟩,
  ⟨false, none, .fld 0 (.t 8), some 9⟩,
  ⟨false, none, .load (.t 9), some 10⟩,
  ⟨false, none, .not (.t 10), some 11⟩] (.cond (.t 11) (.reg [⟨false, none, .mov (.t 1), some 12⟩,
  ⟨false, none, .call 14 [.t 12], some 13⟩,
  ⟨false, none, .mov (.t 13), some 4⟩] (.ret)) (.nop) (.reg [⟨false, none, .mov (.c (.sl .nil 0 [])), some 5⟩] (.reg [⟨false, none, .mov (.t 0), some 14⟩,
  ⟨false, none, .nck (.t 14), some 15⟩,
  ⟨false, none, .fld 1 (.t 15), some 16⟩,
  ⟨false, none, .load (.t 16), some 17⟩,
  ⟨false, none, .mov (.t 1), some 18⟩,
  ⟨false, none, .mkSl false 1 2 (.sl .nil 0 []) [(0, .t 17), (1, .t 18)], some 19⟩,
  ⟨false, none, .call 15 [.t 19], some 20⟩,
  ⟨false, none, .mov (.t 20), some 6⟩] (.block 0 (.loop [0, 5, 6] (.reg [⟨false, none, .mov (.t 6), some 21⟩,
  ⟨false, none, .len (.t 21), some 22⟩,
  ⟨false, none, .bin .gtr (.t 22) (.c (.int .i64 1)), some 23⟩] (.cond (.t 23) (.nop) (.exit 0) (.block 1 (.reg [⟨false, none, .mov (.t 5), some 24⟩,
  ⟨false, none, .mov (.t 6), some 25⟩,
  ⟨false, none, .idx 1 (.t 25) (.c (.int .i64 1)), some 26⟩,
  ⟨false, none, .load (.t 26), some 27⟩,
  ⟨false, none, .mov (.t 6), some 28⟩,
  ⟨false, none, .idx 1 (.t 28) (.c (.int .i64 0)), some 29⟩,
  ⟨false, none, .load (.t 29), some 30⟩,
  ⟨false, none, .mkSl false 1 2 (.int .u8 0) [(0, .t 27), (1, .t 30)], some 31⟩,
  ⟨false, none, .app 1 (.t 24) (.t 31), some 32⟩,
  ⟨false, none, .mov (.t 32), some 5⟩] (.reg [⟨false, none, .mov (.t 6), some 33⟩,
  ⟨false, none, .slice 1 (.t 33) (some (.c (.int .i64 2))) none, some 34⟩,
  ⟨false, none, .mov (.t 34), some 6⟩] (.nop))) (.nop))))) (.reg [⟨false, none, .mov (.t 0), some 35⟩,
  ⟨false, none, .mov (.t 6), some 36⟩,
  ⟨false, none, .call 14 [.t 36], some 37⟩,
  ⟨false, none, .nck (.t 35), some 38⟩,
  ⟨false, none, .fld 1 (.t 38), some 39⟩,
  ⟨false, none, .st 1 (.t 39) (.t 37), none⟩] (.reg [⟨false, none, .mov (.t 5), some 40⟩,
  ⟨false, none, .mov (.t 40), some 4⟩] (.ret))))))))
def hn_8 : Hn := { M := { own := fun _ => false, rb := fun _ => none, ord := fun r => if r = 6 then [0, 1, 2, 3, 4, 5, 6, 7, 8, 9] else [] }, live := fun r => if r = 5 then [0, 5, 6] else [], ms := [] }
theorem kr_8 : rdy Try.prog hn_8 Try.f8 = some (rc_8, [.t 4], 41) := by kernel_rfl
theorem enA_8 : enterA Try.prog 8 = true := by kernel_rfl
theorem en_8 {args : List AV} {K : AV → ASt → Prop} {S : ASt} (hl : args.length ≤ 41) (h : wpR Try.prog rc_8 (bodyQ [.t 4] K) (argF 0 args) S) : ACalls Try.prog 8 args S K := ACalls.of Try.func8 enA_8 kr_8 hl h

/-- (*salvor/swab.Swab).End -/
def rc_9 : RC :=
  .reg [⟨false, none, .mov (.c (.sl .nil 0 [])), some 2⟩] (.reg [⟨false, none, .mov (.t 0), some 4⟩,
  ⟨false, none, .nck (.t 4), some 5⟩,
  ⟨false, none, .fld 1 (.t 5), some 6⟩,
  ⟨false, none, .load (.t 6), some 7⟩,
  ⟨false, none, .mov (.t 7), some 3⟩] (.reg [⟨false, none, .mov (.t 0), some 8⟩,
  ⟨false, none, .nck (.t 8), some 9⟩,
  ⟨false, none, .fld 1 (.t 9), some 10⟩,
  ⟨false, none, .st 1 (.t 10) (.c (.sl .nil 0 [])), none⟩] (.reg [⟨false, none, .mov (.t 3), some 11⟩,
  ⟨false, none, .mov (.t 11), some 2⟩] (.ret))))
def hn_9 : Hn := { M := { own := fun _ => false, rb := fun _ => none, ord := fun _ => [] }, live := fun _ => [], ms := [] }
theorem kr_9 : rdy Try.prog hn_9 Try.f9 = some (rc_9, [.t 2], 12) := by kernel_rfl
theorem enA_9 : enterA Try.prog 9 = true := by kernel_rfl
theorem en_9 {args : List AV} {K : AV → ASt → Prop} {S : ASt} (hl : args.length ≤ 12) (h : wpR Try.prog rc_9 (bodyQ [.t 2] K) (argF 0 args) S) : ACalls Try.prog 9 args S K := ACalls.of Try.func9 enA_9 kr_9 hl h

/-- salvor/salvorlaw6.few -/
def rc_10 : RC :=
  .reg [⟨false, none, .mov (.c (.bool false)), some 2⟩] (.reg [⟨false, none, .mov (.c (.int .i64 0)), some 3⟩] (.reg [⟨false, none, .mov (.c (.int .i64 0)), some 4⟩] (.block 0 (.loop [0, 3, 4, 10, 11, 32, 33] (.reg [⟨false, none, .mov (.t 4), some 5⟩,
  ⟨false, none, .mov (.t 0), some 6⟩,
  ⟨false, none, .len (.t 6), some 7⟩,
  ⟨false, none, .bin .lss (.t 5) (.t 7), some 8⟩,
  ⟨false, none, .mov (.t 8), some 9⟩,
  ⟨false, (some (9, true)), .mov (.t 4), some 10⟩,
  ⟨false, (some (9, true)), .bin .lss (.t 10) (.c (.int .i64 100)), some 11⟩,
  ⟨false, none, .pick (.t 9) (.t 11) (.c (.bool false)), some 12⟩] (.cond (.t 12) (.nop) (.exit 0) (.block 1 (.reg [⟨false, none, .mov (.t 0), some 15⟩,
  ⟨false, none, .mov (.t 4), some 16⟩,
  ⟨false, none, .idx 1 (.t 15) (.t 16), some 17⟩,
  ⟨false, none, .load (.t 17), some 18⟩,
  ⟨false, none, .len (.t 18), some 19⟩,
  ⟨false, none, .bin .gtr (.t 19) (.c (.int .i64 3000)), some 20⟩] (.cond (.t 20) (.reg [⟨false, none, .mov (.c (.bool false)), some 2⟩] (.ret)) (.nop) (.reg [⟨false, none, .mov (.t 3), some 21⟩,
  ⟨false, none, .mov (.t 0), some 22⟩,
  ⟨false, none, .mov (.t 4), some 23⟩,
  ⟨false, none, .idx 1 (.t 22) (.t 23), some 24⟩,
  ⟨false, none, .load (.t 24), some 25⟩,
  ⟨false, none, .len (.t 25), some 26⟩,
  ⟨false, none, .bin .add (.t 21) (.t 26), some 27⟩,
  ⟨false, none, .mov (.t 27), some 3⟩] (.nop)))) (.reg [⟨false, none, .mov (.t 4), some 13⟩,
  ⟨false, none, .bin .add (.t 13) (.c (.int .i64 1)), some 14⟩,
  ⟨false, none, .mov (.t 14), some 4⟩] (.nop)))))) (.reg [⟨false, none, .mov (.t 0), some 28⟩,
  ⟨false, none, .len (.t 28), some 29⟩,
  ⟨false, none, .bin .leq (.t 29) (.c (.int .i64 60)), some 30⟩,
  ⟨false, none, .mov (.t 30), some 31⟩,
  ⟨false, (some (31, true)), .mov (.t 3), some 32⟩,
  ⟨false, (some (31, true)), .bin .leq (.t 32) (.c (.int .i64 3000)), some 33⟩,
  ⟨false, none, .pick (.t 31) (.t 33) (.c (.bool false)), some 34⟩,
  ⟨false, none, .mov (.t 34), some 2⟩] (.ret)))))
def hn_10 : Hn := { M := { own := fun _ => false, rb := fun _ => none, ord := fun _ => [] }, live := fun r => if r = 3 then [0, 3, 4, 10, 11, 32, 33] else [], ms := [] }
theorem kr_10 : rdy Try.prog hn_10 Try.f10 = some (rc_10, [.t 2], 35) := by kernel_rfl
theorem enA_10 : enterA Try.prog 10 = true := by kernel_rfl
theorem en_10 {args : List AV} {K : AV → ASt → Prop} {S : ASt} (hl : args.length ≤ 35) (h : wpR Try.prog rc_10 (bodyQ [.t 2] K) (argF 0 args) S) : ACalls Try.prog 10 args S K := ACalls.of Try.func10 enA_10 kr_10 hl h

/-- (*salvor/salvorref6.Swab).Put -/
def rc_11 : RC :=
  .reg [⟨false, none, .mov (.c (.sl .nil 0 [])), some 4⟩] (.reg [⟨false, none, .mov (.t 0), some 7⟩,
  ⟨false, none, .nck (.t 7), some 8⟩,
  ⟨false, none, .fld 0 (.t 8), some 9⟩,
  ⟨false, none, .load (.t 9), some 10⟩,
  ⟨false, none, .not (.t 10), some 11⟩] (.cond (.t 11) (.reg [⟨false, none, .mov (.t 1), some 12⟩,
  ⟨false, none, .app 1 (.c (.sl .nil 0 [])) (.t 12), some 13⟩,
  ⟨false, none, .mov (.t 13), some 4⟩] (.ret)) (.nop) (.reg [⟨false, none, .mov (.t 0), some 14⟩,
  ⟨false, none, .nck (.t 14), some 15⟩,
  ⟨false, none, .fld 1 (.t 15), some 16⟩,
  ⟨false, none, .load (.t 16), some 17⟩,
  ⟨false, none, .app 1 (.c (.sl .nil 0 [])) (.t 17), some 18⟩,
  ⟨false, none, .mov (.t 1), some 19⟩,
  ⟨false, none, .app 1 (.t 18) (.t 19), some 20⟩,
  ⟨false, none, .mov (.t 20), some 5⟩] (.reg [⟨false, none, .mov (.c (.sl .nil 0 [])), some 6⟩] (.block 0 (.loop [0, 5, 6] (.reg [⟨false, none, .mov (.t 5), some 21⟩,
  ⟨false, none, .len (.t 21), some 22⟩,
  ⟨false, none, .bin .geq (.t 22) (.c (.int .i64 2)), some 23⟩] (.cond (.t 23) (.nop) (.exit 0) (.block 1 (.reg [⟨false, none, .mov (.t 6), some 24⟩,
  ⟨false, none, .mov (.t 5), some 25⟩,
  ⟨false, none, .idx 1 (.t 25) (.c (.int .i64 1)), some 26⟩,
  ⟨false, none, .load (.t 26), some 27⟩,
  ⟨false, none, .mov (.t 5), some 28⟩,
  ⟨false, none, .idx 1 (.t 28) (.c (.int .i64 0)), some 29⟩,
  ⟨false, none, .load (.t 29), some 30⟩,
  ⟨false, none, .mkSl false 1 2 (.int .u8 0) [(0, .t 27), (1, .t 30)], some 31⟩,
  ⟨false, none, .app 1 (.t 24) (.t 31), some 32⟩,
  ⟨false, none, .mov (.t 32), some 6⟩] (.reg [⟨false, none, .mov (.t 5), some 33⟩,
  ⟨false, none, .slice 1 (.t 33) (some (.c (.int .i64 2))) none, some 34⟩,
  ⟨false, none, .mov (.t 34), some 5⟩] (.nop))) (.nop))))) (.reg [⟨false, none, .mov (.t 0), some 35⟩,
  ⟨false, none, .mov (.t 5), some 36⟩,
  ⟨false, none, .app 1 (.c (.sl .nil 0 [])) (.t 36), some 37⟩,
  ⟨false, none, .nck (.t 35), some 38⟩,
  ⟨false, none, .fld 1 (.t 38), some 39⟩,
  ⟨false, none, .st 1 (.t 39) (.t 37), none⟩] (.reg [⟨false, none, .mov (.t 6), some 40⟩,
  ⟨false, none, .mov (.t 40), some 4⟩] (.ret))))))))
def hn_11 : Hn := { M := { own := fun _ => false, rb := fun _ => none, ord := fun r => if r = 6 then [0, 1, 2, 3, 4, 5, 6, 7, 8, 9] else [] }, live := fun r => if r = 5 then [0, 5, 6] else [], ms := [] }
theorem kr_11 : rdy Try.prog hn_11 Try.f11 = some (rc_11, [.t 4], 41) := by kernel_rfl
theorem enA_11 : enterA Try.prog 11 = true := by kernel_rfl
theorem en_11 {args : List AV} {K : AV → ASt → Prop} {S : ASt} (hl : args.length ≤ 41) (h : wpR Try.prog rc_11 (bodyQ [.t 4] K) (argF 0 args) S) : ACalls Try.prog 11 args S K := ACalls.of Try.func11 enA_11 kr_11 hl h

/-- (*salvor/salvorref6.Swab).End -/
def rc_12 : RC :=
  .reg [⟨false, none, .mov (.c (.sl .nil 0 [])), some 2⟩] (.reg [⟨false, none, .mov (.t 0), some 4⟩,
  ⟨false, none, .nck (.t 4), some 5⟩,
  ⟨false, none, .fld 1 (.t 5), some 6⟩,
  ⟨false, none, .load (.t 6), some 7⟩,
  ⟨false, none, .mov (.t 7), some 3⟩] (.reg [⟨false, none, .mov (.t 0), some 8⟩,
  ⟨false, none, .nck (.t 8), some 9⟩,
  ⟨false, none, .fld 1 (.t 9), some 10⟩,
  ⟨false, none, .st 1 (.t 10) (.c (.sl .nil 0 [])), none⟩] (.reg [⟨false, none, .mov (.t 3), some 11⟩,
  ⟨false, none, .mov (.t 11), some 2⟩] (.ret))))
def hn_12 : Hn := { M := { own := fun _ => false, rb := fun _ => none, ord := fun _ => [] }, live := fun _ => [], ms := [] }
theorem kr_12 : rdy Try.prog hn_12 Try.f12 = some (rc_12, [.t 2], 12) := by kernel_rfl
theorem enA_12 : enterA Try.prog 12 = true := by kernel_rfl
theorem en_12 {args : List AV} {K : AV → ASt → Prop} {S : ASt} (hl : args.length ≤ 12) (h : wpR Try.prog rc_12 (bodyQ [.t 2] K) (argF 0 args) S) : ACalls Try.prog 12 args S K := ACalls.of Try.func12 enA_12 kr_12 hl h

/-- salvor/salvorlaw6.whole -/
def rc_13 : RC :=
  .reg [⟨false, none, .mov (.c (.str [])), some 4⟩] (.reg [⟨false, none, .mov (.t 0), some 8⟩,
  ⟨false, none, .call 7 [.t 8], some 9⟩,
  ⟨false, none, .mov (.t 9), some 5⟩] (.reg [⟨false, none, .mov (.c (.str [])), some 6⟩] (.reg [⟨false, none, .mov (.c (.int .i64 0)), some 7⟩] (.block 0 (.loop [1, 5, 6, 7, 15, 16] (.reg [⟨false, none, .mov (.t 7), some 10⟩,
  ⟨false, none, .mov (.t 1), some 11⟩,
  ⟨false, none, .len (.t 11), some 12⟩,
  ⟨false, none, .bin .lss (.t 10) (.t 12), some 13⟩,
  ⟨false, none, .mov (.t 13), some 14⟩,
  ⟨false, (some (14, true)), .mov (.t 5), some 15⟩,
  ⟨false, (some (14, true)), .eqp true (.t 15) (.c (.ptr none)), some 16⟩,
  ⟨false, none, .pick (.t 14) (.t 16) (.c (.bool false)), some 17⟩] (.cond (.t 17) (.nop) (.exit 0) (.block 1 (.reg [⟨false, none, .mov (.t 6), some 20⟩,
  ⟨false, none, .mov (.t 5), some 21⟩,
  ⟨false, none, .mov (.t 1), some 22⟩,
  ⟨false, none, .mov (.t 7), some 23⟩,
  ⟨false, none, .idx 1 (.t 22) (.t 23), some 24⟩,
  ⟨false, none, .load (.t 24), some 25⟩,
  ⟨false, none, .call 8 [.t 21, .t 25], some 26⟩,
  ⟨false, none, .toStr (.t 26), some 27⟩,
  ⟨false, none, .bin .add (.t 20) (.t 27), some 28⟩,
  ⟨false, none, .mov (.t 28), some 6⟩] (.nop)) (.reg [⟨false, none, .mov (.t 7), some 18⟩,
  ⟨false, none, .bin .add (.t 18) (.c (.int .i64 1)), some 19⟩,
  ⟨false, none, .mov (.t 19), some 7⟩] (.nop)))))) (.reg [⟨false, none, .mov (.t 5), some 29⟩,
  ⟨false, none, .eqp true (.t 29) (.c (.ptr none)), some 30⟩] (.cond (.t 30) (.reg [⟨false, none, .mov (.t 6), some 31⟩,
  ⟨false, none, .mov (.t 5), some 32⟩,
  ⟨false, none, .call 9 [.t 32], some 33⟩,
  ⟨false, none, .toStr (.t 33), some 34⟩,
  ⟨false, none, .bin .add (.t 31) (.t 34), some 35⟩,
  ⟨false, none, .mov (.t 35), some 6⟩] (.nop)) (.nop) (.reg [⟨false, none, .mov (.t 6), some 36⟩,
  ⟨false, none, .mov (.t 36), some 4⟩] (.ret))))))))
def hn_13 : Hn := { M := { own := fun _ => false, rb := fun _ => none, ord := fun _ => [] }, live := fun r => if r = 4 then [1, 5, 6, 7, 15, 16] else [], ms := [] }
theorem kr_13 : rdy Try.prog hn_13 Try.f13 = some (rc_13, [.t 4], 37) := by kernel_rfl
theorem enA_13 : enterA Try.prog 13 = true := by kernel_rfl
theorem en_13 {args : List AV} {K : AV → ASt → Prop} {S : ASt} (hl : args.length ≤ 37) (h : wpR Try.prog rc_13 (bodyQ [.t 4] K) (argF 0 args) S) : ACalls Try.prog 13 args S K := ACalls.of Try.func13 enA_13 kr_13 hl h

/-- slices.Clone(()byte,byte) -/
def rc_14 : RC :=
  .reg [⟨false, none, .mov (.c (.sl .nil 0 [])), some 2⟩] (.reg [⟨false, none, .mov (.t 0), some 3⟩,
  ⟨false, none, .eqn false (.t 3), some 4⟩] (.cond (.t 4) (.reg [⟨false, none, .mov (.c (.sl .nil 0 [])), some 2⟩] (.ret)) (.nop) (.reg [⟨false, none, .mkSl true 1 0 (.int .u8 0) [], some 5⟩,
  ⟨false, none, .mov (.t 0), some 6⟩,
  ⟨false, none, .app 1 (.t 5) (.t 6), some 7⟩,
  ⟨false, none, .mov (.t 7), some 2⟩] (.ret))))
def hn_14 : Hn := { M := { own := fun d => d == 5, rb := fun _ => none, ord := fun _ => [] }, live := fun _ => [], ms := [] }
theorem kr_14 : rdy Try.prog hn_14 Try.f14 = some (rc_14, [.t 2], 8) := by kernel_rfl
theorem enA_14 : enterA Try.prog 14 = true := by kernel_rfl
theorem en_14 {args : List AV} {K : AV → ASt → Prop} {S : ASt} (hl : args.length ≤ 8) (h : wpR Try.prog rc_14 (bodyQ [.t 2] K) (argF 0 args) S) : ACalls Try.prog 14 args S K := ACalls.of Try.func14 enA_14 kr_14 hl h

/-- slices.Concat(()byte,byte) -/
def rc_15 : RC :=
  .reg [⟨false, none, .mov (.c (.sl .nil 0 [])), some 2⟩] (.reg [⟨false, none, .mov (.c (.int .i64 0)), some 3⟩] (.reg [⟨false, none, .mov (.t 0), some 9⟩,
  ⟨false, none, .len (.t 9), some 10⟩,
  ⟨false, none, .mov (.c (.int .i64 0)), some 11⟩] (.block 0 (.loop [0, 3, 9, 10, 11] (.reg [⟨false, none, .bin .lss (.t 11) (.t 10), some 12⟩] (.cond (.t 12) (.nop) (.exit 0) (.block 1 (.reg [⟨false, none, .idx 1 (.t 9) (.t 11), some 13⟩,
  ⟨false, none, .load (.t 13), some 14⟩,
  ⟨false, none, .mov (.t 14), some 5⟩] (.reg [⟨false, none, .mov (.t 3), some 15⟩,
  ⟨false, none, .mov (.t 5), some 16⟩,
  ⟨false, none, .len (.t 16), some 17⟩,
  ⟨false, none, .bin .add (.t 15) (.t 17), some 18⟩,
  ⟨false, none, .mov (.t 18), some 3⟩] (.reg [⟨false, none, .mov (.t 3), some 19⟩,
  ⟨false, none, .bin .lss (.t 19) (.c (.int .i64 0)), some 20⟩] (.cond (.t 20) (.reg [⟨false, none, .iface 9 (.c (.str [108, 101, 110, 32, 111, 117, 116, 32, 111, 102, 32, 114, 97, 110, 103, 101])), some 21⟩,
  ⟨false, none, .no, none⟩] (.nop)) (.nop) (.nop))))) (.reg [⟨false, none, .bin .add (.t 11) (.c (.int .i64 1)), some 22⟩,
  ⟨false, none, .mov (.t 22), some 11⟩] (.nop)))))) (.reg [⟨false, none, .mov (.t 3), some 23⟩,
  ⟨false, none, .call 16 [.c (.sl .nil 0 []), .t 23], some 24⟩,
  ⟨false, none, .mov (.t 24), some 6⟩] (.reg [⟨false, none, .mov (.t 0), some 25⟩,
  ⟨false, none, .len (.t 25), some 26⟩,
  ⟨false, none, .mov (.c (.int .i64 0)), some 27⟩] (.block 2 (.loop [6, 25, 26, 27] (.reg [⟨false, none, .bin .lss (.t 27) (.t 26), some 28⟩] (.cond (.t 28) (.nop) (.exit 2) (.block 3 (.reg [⟨false, none, .idx 1 (.t 25) (.t 27), some 29⟩,
  ⟨false, none, .load (.t 29), some 30⟩,
  ⟨false, none, .mov (.t 30), some 8⟩] (.reg [⟨false, none, .mov (.t 6), some 31⟩,
  ⟨false, none, .mov (.t 8), some 32⟩,
  ⟨false, none, .app 1 (.t 31) (.t 32), some 33⟩,
  ⟨false, none, .mov (.t 33), some 6⟩] (.nop))) (.reg [⟨false, none, .bin .add (.t 27) (.c (.int .i64 1)), some 34⟩,
  ⟨false, none, .mov (.t 34), some 27⟩] (.nop)))))) (.reg [⟨false, none, .mov (.t 6), some 35⟩,
  ⟨false, none, .mov (.t 35), some 2⟩] (.ret))))))))
def hn_15 : Hn := { M := { own := fun _ => false, rb := fun _ => none, ord := fun _ => [] }, live := fun r => if r = 3 then [0, 3, 9, 10, 11] else if r = 11 then [6, 25, 26, 27] else [], ms := [] }
theorem kr_15 : rdy Try.prog hn_15 Try.f15 = some (rc_15, [.t 2], 36) := by kernel_rfl
theorem enA_15 : enterA Try.prog 15 = true := by kernel_rfl
theorem en_15 {args : List AV} {K : AV → ASt → Prop} {S : ASt} (hl : args.length ≤ 36) (h : wpR Try.prog rc_15 (bodyQ [.t 2] K) (argF 0 args) S) : ACalls Try.prog 15 args S K := ACalls.of Try.func15 enA_15 kr_15 hl h

/-- slices.Grow(()byte,byte) -/
def rc_16 : RC :=
  .reg [⟨false, none, .mov (.c (.sl .nil 0 [])), some 4⟩] (.reg [⟨false, none, .mov (.t 1), some 5⟩,
  ⟨false, none, .bin .lss (.t 5) (.c (.int .i64 0)), some 6⟩] (.cond (.t 6) (.reg [⟨false, none, .iface 9 (.c (.str [99, 97, 110, 110, 111, 116, 32, 98, 101, 32, 110, 101, 103, 97, 116, 105, 118, 101])), some 7⟩,
  ⟨false, none, .no, none⟩] (.nop)) (.nop) (.reg [⟨false, none, .mov (.t 1), some 8⟩,
  ⟨false, none, .mov (.t 0), some 9⟩,
  ⟨false, none, .cap (.t 9), some 10⟩,
  ⟨false, none, .mov (.t 0), some 11⟩,
  ⟨false, none, .len (.t 11), some 12⟩,
  ⟨false, none, .bin .sub (.t 10) (.t 12), some 13⟩,
  ⟨false, none, .bin .sub (.t 8) (.t 13), some 14⟩,
  ⟨false, none, .mov (.t 14), some 1⟩] (.reg [⟨false, none, .mov (.t 1), some 15⟩,
  ⟨false, none, .bin .gtr (.t 15) (.c (.int .i64 0)), some 16⟩] (.cond (.t 16) (.reg [⟨false, none, .mov (.t 0), some 17⟩,
  ⟨false, none, .mov (.t 0), some 18⟩,
  ⟨false, none, .cap (.t 18), some 19⟩,
  ⟨false, none, .slice 1 (.t 17) none (some (.t 19)), some 20⟩,
  ⟨false, none, .mov (.t 1), some 21⟩,
  ⟨false, none, .appN 1 (.int .u8 0) (.t 20) (.t 21), some 22⟩,
  ⟨false, none, .mov (.t 0), some 23⟩,
  ⟨false, none, .len (.t 23), some 24⟩,
  ⟨false, none, .slice 1 (.t 22) none (some (.t 24)), some 25⟩,
  ⟨false, none, .mov (.t 25), some 0⟩] (.nop)) (.nop) (.reg [⟨false, none, .mov (.t 0), some 26⟩,
  ⟨false, none, .mov (.t 26), some 4⟩] (.ret)))))))
def hn_16 : Hn := { M := { own := fun _ => false, rb := fun _ => none, ord := fun _ => [] }, live := fun _ => [], ms := [] }
theorem kr_16 : rdy Try.prog hn_16 Try.f16 = some (rc_16, [.t 4], 27) := by kernel_rfl
theorem enA_16 : enterA Try.prog 16 = true := by kernel_rfl
theorem en_16 {args : List AV} {K : AV → ASt → Prop} {S : ASt} (hl : args.length ≤ 27) (h : wpR Try.prog rc_16 (bodyQ [.t 4] K) (argF 0 args) S) : ACalls Try.prog 16 args S K := ACalls.of Try.func16 enA_16 kr_16 hl h

end Go.Proofs.Ytmjjhakclggfgaa.Abs
