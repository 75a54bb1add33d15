/- The code of the functions, made ready for running. -/
import Derived.Test.YthpomdoaiibnfaaVc5
import Derived.Test.YthpomdoaiibnfaaProg
import Derived.KernelRfl
namespace Go.Proofs.Ythpomdoaiibnfaa.Abs
open Go Go.Proofs
set_option maxRecDepth 100000
/-- salvor/salvorlaw8.ConvRuns -/
def rc_3 : RC :=
  .reg [⟨false, none, .mov (.c (.bool false)), some 0⟩] (.reg [⟨false, none, .build ([.bool false, .bool false, .bool false, .bool false, .bool false, .bool false, .bool false, .bool false, .int .i64 0]) [(0, 1), (1, 1), (2, 1), (3, 1), (4, 1), (5, 1), (6, 1), (7, 1), (8, 1)] [(4, .c (.bool true)), (1, .c (.bool true)), (8, .c (.int .i64 3))], some 2⟩,
  ⟨false, none, .alloc ([.bool false, .bool false, .bool false, .bool false, .bool false, .bool false, .bool false, .bool false, .int .i64 0]), some 1⟩,
  ⟨false, none, .st 9 (.t 1) (.t 2), none⟩] (.reg [⟨false, none, .loadN 9 (.t 1), some 3⟩,
  ⟨false, none, .mkSl true 1 3 (.int .u8 0) [(0, .c (.int .u8 97)), (1, .c (.int .u8 98)), (2, .c (.int .u8 10))], some 4⟩,
  ⟨false, none, .frz (.t 4), some 5⟩,
  ⟨false, none, .mkSl false 1 1 (.sl .nil 0 []) [(0, .t 5)], some 6⟩,
  ⟨false, none, .call 10 [.t 3, .t 6], some 7⟩,
  ⟨false, none, .toStr (.t 7), some 8⟩,
  ⟨false, none, .bin .eql (.t 8) (.c (.str [65, 66, 32])), some 9⟩,
  ⟨false, none, .mov (.t 9), some 10⟩,
  ⟨false, (some (10, true)), .loadN 9 (.t 1), some 11⟩,
  ⟨false, (some (10, true)), .call 11 [.t 11], some 12⟩,
  ⟨false, none, .pick (.t 10) (.t 12) (.c (.bool false)), some 13⟩,
  ⟨false, none, .mov (.t 13), some 14⟩,
  ⟨false, (some (14, true)), .loadN 9 (.t 1), some 15⟩,
  ⟨false, (some (14, true)), .call 12 [.t 15], some 16⟩,
  ⟨false, (some (14, true)), .bin .eql (.t 16) (.c (.int .u8 32)), some 17⟩,
  ⟨false, none, .pick (.t 14) (.t 17) (.c (.bool false)), some 18⟩,
  ⟨false, none, .mov (.t 18), some 19⟩,
  ⟨false, (some (19, true)), .build ([.bool false, .bool false, .bool false, .bool false, .bool false, .bool false, .bool false, .bool false, .int .i64 0]) [(0, 1), (1, 1), (2, 1), (3, 1), (4, 1), (5, 1), (6, 1), (7, 1), (8, 1)] [(1, .c (.bool true))], some 20⟩,
  ⟨false, (some (19, true)), .call 11 [.t 20], some 21⟩,
  ⟨false, (some (19, true)), .not (.t 21), some 22⟩,
  ⟨false, none, .pick (.t 19) (.t 22) (.c (.bool false)), some 23⟩,
  ⟨false, none, .mov (.t 23), some 24⟩,
  ⟨false, (some (24, true)), .build ([.bool false, .bool false, .bool false, .bool false, .bool false, .bool false, .bool false, .bool false, .int .i64 0]) [(0, 1), (1, 1), (2, 1), (3, 1), (4, 1), (5, 1), (6, 1), (7, 1), (8, 1)] [], some 25⟩,
  ⟨false, (some (24, true)), .call 12 [.t 25], some 26⟩,
  ⟨false, (some (24, true)), .bin .eql (.t 26) (.c (.int .u8 0)), some 27⟩,
  ⟨false, none, .pick (.t 24) (.t 27) (.c (.bool false)), some 28⟩,
  ⟨false, none, .mov (.t 28), some 0⟩] (.ret)))
def hn_3 : Hn := { M := { own := fun d => d == 4, rb := fun _ => none, ord := fun _ => [] }, live := fun _ => [], ms := [62, 65, 69] }
theorem kr_3 : rdy Try.prog hn_3 Try.f3 = some (rc_3, [.t 0], 29) := by kernel_rfl
theorem enA_3 : enterA Try.prog 3 = true := by kernel_rfl
theorem en_3 {args : List AV} {K : AV → ASt → Prop} {S : ASt} (hl : args.length ≤ 29) (h : wpR Try.prog rc_3 (bodyQ [.t 0] K) (argF 0 args) S) : ACalls Try.prog 3 args S K := ACalls.of Try.func3 enA_3 kr_3 hl h

/-- salvor/salvorlaw8.ConvMay -/
def rc_4 : RC :=
  .reg [⟨false, none, .box (.t 0), some 1⟩,
  ⟨false, none, .mov (.c (.bool false)), some 2⟩] (.reg [⟨false, none, .loadN 9 (.t 1), some 3⟩,
  ⟨false, none, .loadN 9 (.t 1), some 5⟩,
  ⟨false, none, .call 11 [.t 3], some 4⟩,
  ⟨true, none, .loadN 9 (.t 1), some 5⟩,
  ⟨false, none, .call 13 [.t 5], some 6⟩,
  ⟨false, none, .eqb false (.t 4) (.t 6), some 7⟩,
  ⟨false, none, .mov (.t 7), some 8⟩,
  ⟨false, (some (8, true)), .loadN 9 (.t 1), some 9⟩,
  ⟨false, (some (8, true)), .loadN 9 (.t 1), some 11⟩,
  ⟨false, (some (8, true)), .call 12 [.t 9], some 10⟩,
  ⟨true, (some (8, true)), .loadN 9 (.t 1), some 11⟩,
  ⟨false, (some (8, true)), .call 14 [.t 11], some 12⟩,
  ⟨false, (some (8, true)), .bin .eql (.t 10) (.t 12), some 13⟩,
  ⟨false, none, .pick (.t 8) (.t 13) (.c (.bool false)), some 14⟩,
  ⟨false, none, .mov (.t 14), some 15⟩,
  ⟨false, (some (15, true)), .call 3 [], some 16⟩,
  ⟨false, none, .pick (.t 15) (.t 16) (.c (.bool false)), some 17⟩,
  ⟨false, none, .mov (.t 17), some 2⟩] (.ret))
def hn_4 : Hn := { M := { own := fun _ => false, rb := fun _ => none, ord := fun r => if r = 1 then [0, 2, 1, 3, 4, 5, 6, 8, 7, 9, 10, 11, 12, 13, 14, 15] else [] }, live := fun _ => [], ms := [62, 65, 69] }
theorem kr_4 : rdy Try.prog hn_4 Try.f4 = some (rc_4, [.t 2], 18) := by kernel_rfl
theorem enA_4 : enterA Try.prog 4 = true := by kernel_rfl
theorem en_4 {args : List AV} {K : AV → ASt → Prop} {S : ASt} (hl : args.length ≤ 18) (h : wpR Try.prog rc_4 (bodyQ [.t 2] K) (argF 0 args) S) : ACalls Try.prog 4 args S K := ACalls.of Try.func4 enA_4 kr_4 hl h

/-- salvor/salvorlaw8.ConvPieces -/
def rc_5 : RC :=
  .reg [⟨false, none, .box (.t 0), some 2⟩,
  ⟨false, none, .mov (.c (.bool false)), some 4⟩] (.reg [⟨false, none, .mov (.t 1), some 9⟩,
  ⟨false, none, .call 15 [.t 9], some 10⟩,
  ⟨false, none, .not (.t 10), some 11⟩,
  ⟨false, none, .mov (.t 11), some 12⟩,
  ⟨false, (some (12, false)), .fld 8 (.t 2), some 13⟩,
  ⟨false, (some (12, false)), .load (.t 13), some 14⟩,
  ⟨false, (some (12, false)), .bin .gtr (.t 14) (.c (.int .i64 500)), some 15⟩,
  ⟨false, (some (12, false)), .mov (.t 15), some 16⟩,
  ⟨false, (some (16, true)), .fld 8 (.t 2), some 17⟩,
  ⟨false, (some (16, true)), .load (.t 17), some 18⟩,
  ⟨false, (some (16, true)), .bin .leq (.t 18) (.c (.int .i64 4096)), some 19⟩,
  ⟨false, (some (12, false)), .pick (.t 16) (.t 19) (.c (.bool false)), some 20⟩,
  ⟨false, none, .pick (.t 12) (.c (.bool true)) (.t 20), some 21⟩] (.cond (.t 21) (.reg [⟨false, none, .call 3 [], some 22⟩,
  ⟨false, none, .mov (.t 22), some 4⟩] (.ret)) (.nop) (.reg [⟨false, none, .loadN 9 (.t 2), some 23⟩,
  ⟨false, none, .call 16 [.t 23], some 24⟩,
  ⟨false, none, .mov (.t 24), some 5⟩] (.reg [⟨false, none, .mov (.t 5), some 25⟩,
  ⟨false, none, .eqp false (.t 25) (.c (.ptr none)), some 26⟩] (.cond (.t 26) (.reg [⟨false, none, .mov (.c (.bool false)), some 4⟩] (.ret)) (.nop) (.reg [⟨false, none, .mov (.c (.sl .nil 0 [])), some 6⟩] (.reg [⟨false, none, .mov (.c (.str [])), some 7⟩] (.reg [⟨false, none, .mov (.c (.int .i64 0)), some 8⟩] (.block 0 (.loop [1, 2, 5, 6, 7, 8] (.reg [⟨false, none, .mov (.t 8), some 27⟩,
  ⟨false, none, .mov (.t 1), some 28⟩,
  ⟨false, none, .len (.t 28), some 29⟩,
  ⟨false, none, .bin .lss (.t 27) (.t 29), some 30⟩] (.cond (.t 30) (.nop) (.exit 0) (.block 1 (.reg [⟨false, none, .mov (.t 6), some 33⟩,
  ⟨false, none, .mov (.t 1), some 34⟩,
  ⟨false, none, .mov (.t 8), some 35⟩,
  ⟨false, none, .idx 1 (.t 34) (.t 35), some 36⟩,
  ⟨false, none, .load (.t 36), some 37⟩,
  ⟨false, none, .app 1 (.t 33) (.t 37), some 38⟩,
  ⟨false, none, .mov (.t 38), some 6⟩] (.reg [⟨false, none, .mov (.t 7), some 39⟩,
  ⟨false, none, .mov (.t 5), some 40⟩,
  ⟨false, none, .mov (.t 1), some 41⟩,
  ⟨false, none, .mov (.t 8), some 42⟩,
  ⟨false, none, .idx 1 (.t 41) (.t 42), some 43⟩,
  ⟨false, none, .load (.t 43), some 44⟩,
  ⟨false, none, .call 17 [.t 40, .t 44], some 45⟩,
  ⟨false, none, .toStr (.t 45), some 46⟩,
  ⟨false, none, .bin .add (.t 39) (.t 46), some 47⟩,
  ⟨false, none, .mov (.t 47), some 7⟩] (.nop))) (.reg [⟨false, none, .mov (.t 8), some 31⟩,
  ⟨false, none, .bin .add (.t 31) (.c (.int .i64 1)), some 32⟩,
  ⟨false, none, .mov (.t 32), some 8⟩] (.nop)))))) (.reg [⟨false, none, .mov (.t 7), some 48⟩,
  ⟨false, none, .mov (.t 5), some 49⟩,
  ⟨false, none, .call 18 [.t 49], some 50⟩,
  ⟨false, none, .toStr (.t 50), some 51⟩,
  ⟨false, none, .bin .add (.t 48) (.t 51), some 52⟩,
  ⟨false, none, .mov (.t 52), some 7⟩] (.reg [⟨false, none, .mov (.t 7), some 53⟩,
  ⟨false, none, .loadN 9 (.t 2), some 54⟩,
  ⟨false, none, .mov (.t 1), some 55⟩,
  ⟨false, none, .call 10 [.t 54, .t 55], some 56⟩,
  ⟨false, none, .toStr (.t 56), some 57⟩,
  ⟨false, none, .bin .eql (.t 53) (.t 57), some 58⟩,
  ⟨false, none, .mov (.t 58), some 59⟩,
  ⟨false, (some (59, true)), .mov (.t 7), some 60⟩,
  ⟨false, (some (59, true)), .loadN 9 (.t 2), some 61⟩,
  ⟨false, (some (59, true)), .mov (.t 6), some 62⟩,
  ⟨false, (some (59, true)), .mkSl false 1 1 (.sl .nil 0 []) [(0, .t 62)], some 63⟩,
  ⟨false, (some (59, true)), .call 10 [.t 61, .t 63], some 64⟩,
  ⟨false, (some (59, true)), .toStr (.t 64), some 65⟩,
  ⟨false, (some (59, true)), .bin .eql (.t 60) (.t 65), some 66⟩,
  ⟨false, none, .pick (.t 59) (.t 66) (.c (.bool false)), some 67⟩,
  ⟨false, none, .mov (.t 67), some 68⟩,
  ⟨false, (some (68, true)), .call 3 [], some 69⟩,
  ⟨false, none, .pick (.t 68) (.t 69) (.c (.bool false)), some 70⟩,
  ⟨false, none, .mov (.t 70), some 4⟩] (.ret))))))))))))
def hn_5 : Hn := { M := { own := fun _ => false, rb := fun _ => none, ord := fun _ => [] }, live := fun r => if r = 9 then [1, 2, 5, 6, 7, 8] else [], ms := [62, 65, 69] }
theorem kr_5 : rdy Try.prog hn_5 Try.f5 = some (rc_5, [.t 4], 71) := by kernel_rfl
theorem enA_5 : enterA Try.prog 5 = true := by kernel_rfl
theorem en_5 {args : List AV} {K : AV → ASt → Prop} {S : ASt} (hl : args.length ≤ 71) (h : wpR Try.prog rc_5 (bodyQ [.t 4] K) (argF 0 args) S) : ACalls Try.prog 5 args S K := ACalls.of Try.func5 enA_5 kr_5 hl h

/-- salvor/salvorlaw8.ConvNone -/
def rc_6 : RC :=
  .reg [⟨false, none, .box (.t 0), some 2⟩,
  ⟨false, none, .mov (.c (.bool false)), some 4⟩] (.reg [⟨false, none, .mov (.t 1), some 7⟩,
  ⟨false, none, .len (.t 7), some 8⟩,
  ⟨false, none, .bin .gtr (.t 8) (.c (.int .i64 300)), some 9⟩] (.cond (.t 9) (.reg [⟨false, none, .call 3 [], some 10⟩,
  ⟨false, none, .mov (.t 10), some 4⟩] (.ret)) (.nop) (.reg [⟨false, none, .loadN 9 (.t 2), some 11⟩,
  ⟨false, none, .call 11 [.t 11], some 12⟩,
  ⟨false, none, .not (.t 12), some 13⟩,
  ⟨false, none, .mov (.t 13), some 14⟩,
  ⟨false, (some (14, true)), .loadN 9 (.t 2), some 15⟩,
  ⟨false, (some (14, true)), .mov (.t 1), some 16⟩,
  ⟨false, (some (14, true)), .mkSl false 1 1 (.sl .nil 0 []) [(0, .t 16)], some 17⟩,
  ⟨false, (some (14, true)), .mov (.t 1), some 20⟩,
  ⟨false, (some (14, true)), .toStr (.t 20), some 21⟩,
  ⟨false, (some (14, true)), .call 10 [.t 15, .t 17], some 18⟩,
  ⟨true, (some (14, true)), .toStr (.t 20), some 21⟩,
  ⟨false, (some (14, true)), .toStr (.t 18), some 19⟩,
  ⟨false, (some (14, true)), .bin .neq (.t 19) (.t 21), some 22⟩,
  ⟨false, none, .pick (.t 14) (.t 22) (.c (.bool false)), some 23⟩] (.cond (.t 23) (.reg [⟨false, none, .mov (.c (.bool false)), some 4⟩] (.ret)) (.nop) (.reg [⟨false, none, .build ([.bool false, .bool false, .bool false, .bool false, .bool false, .bool false, .bool false, .bool false, .int .i64 0]) [(0, 1), (1, 1), (2, 1), (3, 1), (4, 1), (5, 1), (6, 1), (7, 1), (8, 1)] [(4, .c (.bool true))], some 24⟩,
  ⟨false, none, .mov (.t 1), some 25⟩,
  ⟨false, none, .mkSl false 1 1 (.sl .nil 0 []) [(0, .t 25)], some 26⟩,
  ⟨false, none, .call 10 [.t 24, .t 26], some 27⟩,
  ⟨false, none, .mov (.t 27), some 5⟩] (.reg [⟨false, none, .build ([.bool false, .bool false, .bool false, .bool false, .bool false, .bool false, .bool false, .bool false, .int .i64 0]) [(0, 1), (1, 1), (2, 1), (3, 1), (4, 1), (5, 1), (6, 1), (7, 1), (8, 1)] [(3, .c (.bool true)), (8, .c (.int .i64 9))], some 28⟩,
  ⟨false, none, .mov (.t 1), some 29⟩,
  ⟨false, none, .mkSl false 1 1 (.sl .nil 0 []) [(0, .t 29)], some 30⟩,
  ⟨false, none, .call 10 [.t 28, .t 30], some 31⟩,
  ⟨false, none, .mov (.t 31), some 6⟩] (.reg [⟨false, none, .build ([.bool false, .bool false, .bool false, .bool false, .bool false, .bool false, .bool false, .bool false, .int .i64 0]) [(0, 1), (1, 1), (2, 1), (3, 1), (4, 1), (5, 1), (6, 1), (7, 1), (8, 1)] [], some 32⟩,
  ⟨false, none, .mov (.t 1), some 33⟩,
  ⟨false, none, .mkSl false 1 2 (.sl .nil 0 []) [(0, .t 33), (1, .c (.sl .nil 0 []))], some 34⟩,
  ⟨false, none, .mov (.t 1), some 37⟩,
  ⟨false, none, .toStr (.t 37), some 38⟩,
  ⟨false, none, .call 10 [.t 32, .t 34], some 35⟩,
  ⟨true, none, .toStr (.t 37), some 38⟩,
  ⟨false, none, .toStr (.t 35), some 36⟩,
  ⟨false, none, .bin .eql (.t 36) (.t 38), some 39⟩,
  ⟨false, none, .mov (.t 39), some 40⟩,
  ⟨false, (some (40, true)), .mov (.t 5), some 41⟩,
  ⟨false, (some (40, true)), .toStr (.t 41), some 42⟩,
  ⟨false, (some (40, true)), .mov (.t 1), some 44⟩,
  ⟨false, (some (40, true)), .call 20 [], some 43⟩,
  ⟨true, (some (40, true)), .toStr (.t 41), some 42⟩,
  ⟨false, (some (40, true)), .call 19 [.t 43, .t 44], some 45⟩,
  ⟨true, (some (40, true)), .toStr (.t 41), some 42⟩,
  ⟨false, (some (40, true)), .toStr (.t 45), some 46⟩,
  ⟨false, (some (40, true)), .bin .eql (.t 42) (.t 46), some 47⟩,
  ⟨false, none, .pick (.t 40) (.t 47) (.c (.bool false)), some 48⟩,
  ⟨false, none, .mov (.t 48), some 49⟩,
  ⟨false, (some (49, true)), .mov (.t 6), some 50⟩,
  ⟨false, (some (49, true)), .toStr (.t 50), some 51⟩,
  ⟨false, (some (49, true)), .mov (.t 1), some 53⟩,
  ⟨false, (some (49, true)), .call 21 [], some 52⟩,
  ⟨true, (some (49, true)), .toStr (.t 50), some 51⟩,
  ⟨false, (some (49, true)), .call 19 [.t 52, .t 53], some 54⟩,
  ⟨true, (some (49, true)), .toStr (.t 50), some 51⟩,
  ⟨false, (some (49, true)), .toStr (.t 54), some 55⟩,
  ⟨false, (some (49, true)), .bin .eql (.t 51) (.t 55), some 56⟩,
  ⟨false, none, .pick (.t 49) (.t 56) (.c (.bool false)), some 57⟩,
  ⟨false, none, .mov (.t 57), some 58⟩,
  ⟨false, (some (58, true)), .call 3 [], some 59⟩,
  ⟨false, none, .pick (.t 58) (.t 59) (.c (.bool false)), some 60⟩,
  ⟨false, none, .mov (.t 60), some 4⟩] (.ret))))))))
def hn_6 : Hn := { M := { own := fun _ => false, rb := fun _ => none, ord := fun r => if r = 3 then [0, 1, 2, 3, 4, 5, 6, 9, 10, 7, 8, 11, 12] else if r = 7 then [0, 1, 2, 5, 6, 3, 4, 7, 8, 9, 10, 12, 11, 13, 14, 15, 16, 17, 18, 19, 21, 20, 22, 23, 24, 25, 26, 27, 28, 29] else [] }, live := fun _ => [], ms := [62, 65, 69] }
theorem kr_6 : rdy Try.prog hn_6 Try.f6 = some (rc_6, [.t 4], 61) := by kernel_rfl
theorem enA_6 : enterA Try.prog 6 = true := by kernel_rfl
theorem en_6 {args : List AV} {K : AV → ASt → Prop} {S : ASt} (hl : args.length ≤ 61) (h : wpR Try.prog rc_6 (bodyQ [.t 4] K) (argF 0 args) S) : ACalls Try.prog 6 args S K := ACalls.of Try.func6 enA_6 kr_6 hl h

/-- salvor/salvorlaw8.ConvCodes -/
def rc_7 : RC :=
  .reg [⟨false, none, .mov (.c (.bool false)), some 4⟩] (.reg [⟨false, none, .mov (.t 0), some 13⟩,
  ⟨false, none, .bin .rem (.t 13) (.c (.int .u8 40)), some 14⟩,
  ⟨false, none, .toInt .i64 (.t 14), some 15⟩,
  ⟨false, none, .bin .add (.t 15) (.c (.int .i64 1)), some 16⟩,
  ⟨false, none, .mov (.t 16), some 5⟩] (.reg [⟨false, none, .mov (.t 1), some 17⟩,
  ⟨false, none, .len (.t 17), some 18⟩,
  ⟨false, none, .bin .gtr (.t 18) (.c (.int .i64 12)), some 19⟩] (.cond (.t 19) (.reg [⟨false, none, .call 3 [], some 20⟩,
  ⟨false, none, .mov (.t 20), some 4⟩] (.ret)) (.nop) (.reg [⟨false, none, .mov (.c (.str [])), some 6⟩] (.reg [⟨false, none, .mov (.c (.int .i64 0)), some 7⟩] (.block 0 (.loop [1, 5, 6, 7] (.reg [⟨false, none, .mov (.t 7), some 21⟩,
  ⟨false, none, .mov (.t 1), some 22⟩,
  ⟨false, none, .len (.t 22), some 23⟩,
  ⟨false, none, .bin .lss (.t 21) (.t 23), some 24⟩] (.cond (.t 24) (.nop) (.exit 0) (.block 1 (.reg [⟨false, none, .mov (.t 1), some 27⟩,
  ⟨false, none, .mov (.t 7), some 28⟩,
  ⟨false, none, .idx 1 (.t 27) (.t 28), some 29⟩,
  ⟨false, none, .load (.t 29), some 30⟩,
  ⟨false, none, .mov (.t 1), some 31⟩,
  ⟨false, none, .mov (.t 7), some 32⟩,
  ⟨false, none, .idx 1 (.t 31) (.t 32), some 33⟩,
  ⟨false, none, .load (.t 33), some 34⟩,
  ⟨false, none, .lenS (.t 34), some 35⟩,
  ⟨false, none, .mov (.t 5), some 36⟩,
  ⟨false, none, .min (.t 35) (.t 36), some 37⟩,
  ⟨false, none, .sliceS (.t 30) none (some (.t 37)), some 38⟩,
  ⟨false, none, .mov (.t 38), some 8⟩] (.reg [⟨false, none, .mov (.c (.int .i64 0)), some 9⟩] (.block 2 (.loop [1, 5, 6, 7, 8, 9] (.reg [⟨false, none, .mov (.t 9), some 39⟩,
  ⟨false, none, .mov (.t 8), some 40⟩,
  ⟨false, none, .lenS (.t 40), some 41⟩,
  ⟨false, none, .bin .lss (.t 39) (.t 41), some 42⟩] (.cond (.t 42) (.nop) (.exit 2) (.block 3 (.reg [⟨false, none, .mov (.t 8), some 45⟩,
  ⟨false, none, .mov (.t 9), some 46⟩,
  ⟨false, none, .ixS (.t 45) (.t 46), some 47⟩,
  ⟨false, none, .bin .eql (.t 47) (.c (.int .u8 10)), some 48⟩] (.cond (.t 48) (.reg [⟨false, none, .call 3 [], some 49⟩,
  ⟨false, none, .mov (.t 49), some 4⟩] (.ret)) (.nop) (.nop))) (.reg [⟨false, none, .mov (.t 9), some 43⟩,
  ⟨false, none, .bin .add (.t 43) (.c (.int .i64 1)), some 44⟩,
  ⟨false, none, .mov (.t 44), some 9⟩] (.nop)))))) (.block 4 (.loop [1, 5, 6, 7, 8] (.reg [⟨false, none, .mov (.t 8), some 50⟩,
  ⟨false, none, .bin .neq (.t 50) (.c (.str [])), some 51⟩,
  ⟨false, none, .mov (.t 51), some 52⟩,
  ⟨false, (some (52, true)), .mov (.t 8), some 53⟩,
  ⟨false, (some (52, true)), .mov (.t 8), some 54⟩,
  ⟨false, (some (52, true)), .lenS (.t 54), some 55⟩,
  ⟨false, (some (52, true)), .bin .sub (.t 55) (.c (.int .i64 1)), some 56⟩,
  ⟨false, (some (52, true)), .ixS (.t 53) (.t 56), some 57⟩,
  ⟨false, (some (52, true)), .bin .eql (.t 57) (.c (.int .u8 32)), some 58⟩,
  ⟨false, none, .pick (.t 52) (.t 58) (.c (.bool false)), some 59⟩] (.cond (.t 59) (.nop) (.exit 4) (.block 5 (.reg [⟨false, none, .mov (.t 8), some 60⟩,
  ⟨false, none, .mov (.t 8), some 61⟩,
  ⟨false, none, .lenS (.t 61), some 62⟩,
  ⟨false, none, .bin .sub (.t 62) (.c (.int .i64 1)), some 63⟩,
  ⟨false, none, .sliceS (.t 60) none (some (.t 63)), some 64⟩,
  ⟨false, none, .mov (.t 64), some 8⟩] (.nop)) (.nop))))) (.reg [⟨false, none, .mov (.t 6), some 65⟩,
  ⟨false, none, .mov (.t 8), some 66⟩,
  ⟨false, none, .bin .add (.t 65) (.t 66), some 67⟩,
  ⟨false, none, .bin .add (.t 67) (.c (.str [10])), some 68⟩,
  ⟨false, none, .mov (.t 68), some 6⟩] (.nop)))))) (.reg [⟨false, none, .mov (.t 7), some 25⟩,
  ⟨false, none, .bin .add (.t 25) (.c (.int .i64 1)), some 26⟩,
  ⟨false, none, .mov (.t 26), some 7⟩] (.nop)))))) (.reg [⟨false, none, .mov (.t 5), some 69⟩,
  ⟨false, none, .build ([.bool false, .bool false, .bool false, .bool false, .bool false, .bool false, .bool false, .bool false, .int .i64 0]) [(0, 1), (1, 1), (2, 1), (3, 1), (4, 1), (5, 1), (6, 1), (7, 1), (8, 1)] [(6, .c (.bool true)), (8, .t 69)], some 70⟩,
  ⟨false, none, .mov (.t 6), some 71⟩,
  ⟨false, none, .toSl (.t 71), some 72⟩,
  ⟨false, none, .mkSl false 1 1 (.sl .nil 0 []) [(0, .t 72)], some 73⟩,
  ⟨false, none, .call 10 [.t 70, .t 73], some 74⟩,
  ⟨false, none, .mov (.t 74), some 10⟩] (.reg [⟨false, none, .mov (.t 5), some 75⟩,
  ⟨false, none, .build ([.bool false, .bool false, .bool false, .bool false, .bool false, .bool false, .bool false, .bool false, .int .i64 0]) [(0, 1), (1, 1), (2, 1), (3, 1), (4, 1), (5, 1), (6, 1), (7, 1), (8, 1)] [(5, .c (.bool true)), (8, .t 75)], some 76⟩,
  ⟨false, none, .mov (.t 10), some 77⟩,
  ⟨false, none, .mkSl false 1 1 (.sl .nil 0 []) [(0, .t 77)], some 78⟩,
  ⟨false, none, .call 10 [.t 76, .t 78], some 79⟩,
  ⟨false, none, .mov (.t 79), some 11⟩] (.reg [⟨false, none, .mov (.t 5), some 80⟩,
  ⟨false, none, .build ([.bool false, .bool false, .bool false, .bool false, .bool false, .bool false, .bool false, .bool false, .int .i64 0]) [(0, 1), (1, 1), (2, 1), (3, 1), (4, 1), (5, 1), (6, 1), (7, 1), (8, 1)] [(1, .c (.bool true)), (8, .t 80)], some 81⟩,
  ⟨false, none, .mov (.t 6), some 82⟩,
  ⟨false, none, .toSl (.t 82), some 83⟩,
  ⟨false, none, .mkSl false 1 1 (.sl .nil 0 []) [(0, .t 83)], some 84⟩,
  ⟨false, none, .call 10 [.t 81, .t 84], some 85⟩,
  ⟨false, none, .mov (.t 85), some 12⟩] (.reg [⟨false, none, .mov (.t 10), some 86⟩,
  ⟨false, none, .len (.t 86), some 87⟩,
  ⟨false, none, .mov (.t 5), some 88⟩,
  ⟨false, none, .mov (.t 1), some 89⟩,
  ⟨false, none, .len (.t 89), some 90⟩,
  ⟨false, none, .bin .mul (.t 88) (.t 90), some 91⟩,
  ⟨false, none, .bin .eql (.t 87) (.t 91), some 92⟩,
  ⟨false, none, .mov (.t 92), some 93⟩,
  ⟨false, (some (93, true)), .mov (.t 11), some 94⟩,
  ⟨false, (some (93, true)), .toStr (.t 94), some 95⟩,
  ⟨false, (some (93, true)), .mov (.t 6), some 96⟩,
  ⟨false, (some (93, true)), .bin .eql (.t 95) (.t 96), some 97⟩,
  ⟨false, none, .pick (.t 93) (.t 97) (.c (.bool false)), some 98⟩,
  ⟨false, none, .mov (.t 98), some 99⟩,
  ⟨false, (some (99, true)), .mov (.t 10), some 100⟩,
  ⟨false, (some (99, true)), .toStr (.t 100), some 101⟩,
  ⟨false, (some (99, true)), .mov (.t 12), some 103⟩,
  ⟨false, (some (99, true)), .call 22 [], some 102⟩,
  ⟨true, (some (99, true)), .toStr (.t 100), some 101⟩,
  ⟨false, (some (99, true)), .call 19 [.t 102, .t 103], some 104⟩,
  ⟨true, (some (99, true)), .toStr (.t 100), some 101⟩,
  ⟨false, (some (99, true)), .toStr (.t 104), some 105⟩,
  ⟨false, (some (99, true)), .bin .eql (.t 101) (.t 105), some 106⟩,
  ⟨false, none, .pick (.t 99) (.t 106) (.c (.bool false)), some 107⟩,
  ⟨false, none, .mov (.t 107), some 108⟩,
  ⟨false, (some (108, true)), .mov (.t 5), some 109⟩,
  ⟨false, (some (108, true)), .build ([.bool false, .bool false, .bool false, .bool false, .bool false, .bool false, .bool false, .bool false, .int .i64 0]) [(0, 1), (1, 1), (2, 1), (3, 1), (4, 1), (5, 1), (6, 1), (7, 1), (8, 1)] [(7, .c (.bool true)), (8, .t 109)], some 110⟩,
  ⟨false, (some (108, true)), .mov (.t 6), some 111⟩,
  ⟨false, (some (108, true)), .toSl (.t 111), some 112⟩,
  ⟨false, (some (108, true)), .mkSl false 1 1 (.sl .nil 0 []) [(0, .t 112)], some 113⟩,
  ⟨false, (some (108, true)), .mov (.t 12), some 117⟩,
  ⟨false, (some (108, true)), .call 10 [.t 110, .t 113], some 114⟩,
  ⟨false, (some (108, true)), .toStr (.t 114), some 115⟩,
  ⟨false, (some (108, true)), .call 23 [], some 116⟩,
  ⟨true, (some (108, true)), .toStr (.t 114), some 115⟩,
  ⟨false, (some (108, true)), .call 19 [.t 116, .t 117], some 118⟩,
  ⟨true, (some (108, true)), .toStr (.t 114), some 115⟩,
  ⟨false, (some (108, true)), .toStr (.t 118), some 119⟩,
  ⟨false, (some (108, true)), .bin .eql (.t 115) (.t 119), some 120⟩,
  ⟨false, none, .pick (.t 108) (.t 120) (.c (.bool false)), some 121⟩,
  ⟨false, none, .mov (.t 121), some 122⟩,
  ⟨false, (some (122, true)), .call 3 [], some 123⟩,
  ⟨false, none, .pick (.t 122) (.t 123) (.c (.bool false)), some 124⟩,
  ⟨false, none, .mov (.t 124), some 4⟩] (.ret)))))))))))
def hn_7 : Hn := { M := { own := fun _ => false, rb := fun _ => none, ord := fun r => if r = 8 then [0, 1, 2, 3, 4, 5, 6, 7, 8, 9, 10, 11, 12] else if r = 20 then [0, 1, 2, 3, 4, 5, 6, 7, 8, 9, 10, 11, 12, 13, 14, 15, 17, 16, 18, 19, 20, 21, 22, 23, 24, 25, 26, 27, 31, 28, 29, 30, 32, 33, 34, 35, 36, 37, 38, 39] else [] }, live := fun r => if r = 6 then [1, 5, 6, 7] else if r = 10 then [1, 5, 6, 7, 8, 9] else if r = 14 then [1, 5, 6, 7, 8] else [], ms := [62, 65, 69] }
theorem kr_7 : rdy Try.prog hn_7 Try.f7 = some (rc_7, [.t 4], 125) := by kernel_rfl
theorem enA_7 : enterA Try.prog 7 = true := by kernel_rfl
theorem en_7 {args : List AV} {K : AV → ASt → Prop} {S : ASt} (hl : args.length ≤ 125) (h : wpR Try.prog rc_7 (bodyQ [.t 4] K) (argF 0 args) S) : ACalls Try.prog 7 args S K := ACalls.of Try.func7 enA_7 kr_7 hl h

/-- salvor/salvorlaw8.ConvOrder -/
def rc_8 : RC :=
  .reg [⟨false, none, .mov (.c (.bool false)), some 4⟩] (.reg [⟨false, none, .mov (.t 0), some 13⟩,
  ⟨false, none, .len (.t 13), some 14⟩,
  ⟨false, none, .bin .gtr (.t 14) (.c (.int .i64 200)), some 15⟩] (.cond (.t 15) (.reg [⟨false, none, .call 3 [], some 16⟩,
  ⟨false, none, .mov (.t 16), some 4⟩] (.ret)) (.nop) (.reg [⟨false, none, .mov (.t 1), some 17⟩,
  ⟨false, none, .bin .rem (.t 17) (.c (.int .u8 20)), some 18⟩,
  ⟨false, none, .toInt .i64 (.t 18), some 19⟩,
  ⟨false, none, .bin .add (.t 19) (.c (.int .i64 1)), some 20⟩,
  ⟨false, none, .mov (.t 20), some 5⟩] (.reg [⟨false, none, .build ([.bool false, .bool false, .bool false, .bool false, .bool false, .bool false, .bool false, .bool false, .int .i64 0]) [(0, 1), (1, 1), (2, 1), (3, 1), (4, 1), (5, 1), (6, 1), (7, 1), (8, 1)] [(0, .c (.bool true))], some 21⟩,
  ⟨false, none, .mov (.t 0), some 22⟩,
  ⟨false, none, .mkSl false 1 1 (.sl .nil 0 []) [(0, .t 22)], some 23⟩,
  ⟨false, none, .call 10 [.t 21, .t 23], some 24⟩,
  ⟨false, none, .mov (.t 24), some 6⟩] (.reg [⟨false, none, .mov (.t 5), some 25⟩,
  ⟨false, none, .build ([.bool false, .bool false, .bool false, .bool false, .bool false, .bool false, .bool false, .bool false, .int .i64 0]) [(0, 1), (1, 1), (2, 1), (3, 1), (4, 1), (5, 1), (6, 1), (7, 1), (8, 1)] [(0, .c (.bool true)), (3, .c (.bool true)), (1, .c (.bool true)), (8, .t 25)], some 26⟩,
  ⟨false, none, .mov (.t 0), some 27⟩,
  ⟨false, none, .mkSl false 1 1 (.sl .nil 0 []) [(0, .t 27)], some 28⟩,
  ⟨false, none, .call 10 [.t 26, .t 28], some 29⟩,
  ⟨false, none, .mov (.t 29), some 7⟩] (.reg [⟨false, none, .mov (.t 5), some 30⟩,
  ⟨false, none, .build ([.bool false, .bool false, .bool false, .bool false, .bool false, .bool false, .bool false, .bool false, .int .i64 0]) [(0, 1), (1, 1), (2, 1), (3, 1), (4, 1), (5, 1), (6, 1), (7, 1), (8, 1)] [(3, .c (.bool true)), (1, .c (.bool true)), (8, .t 30)], some 31⟩,
  ⟨false, none, .mov (.t 6), some 32⟩,
  ⟨false, none, .mkSl false 1 1 (.sl .nil 0 []) [(0, .t 32)], some 33⟩,
  ⟨false, none, .call 10 [.t 31, .t 33], some 34⟩,
  ⟨false, none, .mov (.t 34), some 8⟩] (.reg [⟨false, none, .mov (.t 5), some 35⟩,
  ⟨false, none, .build ([.bool false, .bool false, .bool false, .bool false, .bool false, .bool false, .bool false, .bool false, .int .i64 0]) [(0, 1), (1, 1), (2, 1), (3, 1), (4, 1), (5, 1), (6, 1), (7, 1), (8, 1)] [(4, .c (.bool true)), (6, .c (.bool true)), (8, .t 35)], some 36⟩,
  ⟨false, none, .mov (.t 0), some 37⟩,
  ⟨false, none, .mkSl false 1 1 (.sl .nil 0 []) [(0, .t 37)], some 38⟩,
  ⟨false, none, .call 10 [.t 36, .t 38], some 39⟩,
  ⟨false, none, .mov (.t 39), some 9⟩] (.reg [⟨false, none, .mov (.t 5), some 40⟩,
  ⟨false, none, .build ([.bool false, .bool false, .bool false, .bool false, .bool false, .bool false, .bool false, .bool false, .int .i64 0]) [(0, 1), (1, 1), (2, 1), (3, 1), (4, 1), (5, 1), (6, 1), (7, 1), (8, 1)] [(6, .c (.bool true)), (8, .t 40)], some 41⟩,
  ⟨false, none, .call 20 [], some 42⟩,
  ⟨false, none, .mov (.t 0), some 43⟩,
  ⟨false, none, .call 19 [.t 42, .t 43], some 44⟩,
  ⟨false, none, .mkSl false 1 1 (.sl .nil 0 []) [(0, .t 44)], some 45⟩,
  ⟨false, none, .call 10 [.t 41, .t 45], some 46⟩,
  ⟨false, none, .mov (.t 46), some 10⟩] (.reg [⟨false, none, .mov (.t 5), some 47⟩,
  ⟨false, none, .build ([.bool false, .bool false, .bool false, .bool false, .bool false, .bool false, .bool false, .bool false, .int .i64 0]) [(0, 1), (1, 1), (2, 1), (3, 1), (4, 1), (5, 1), (6, 1), (7, 1), (8, 1)] [(5, .c (.bool true)), (4, .c (.bool true)), (8, .t 47)], some 48⟩,
  ⟨false, none, .mov (.t 0), some 49⟩,
  ⟨false, none, .mkSl false 1 1 (.sl .nil 0 []) [(0, .t 49)], some 50⟩,
  ⟨false, none, .call 10 [.t 48, .t 50], some 51⟩,
  ⟨false, none, .mov (.t 51), some 11⟩] (.reg [⟨false, none, .mov (.t 5), some 52⟩,
  ⟨false, none, .build ([.bool false, .bool false, .bool false, .bool false, .bool false, .bool false, .bool false, .bool false, .int .i64 0]) [(0, 1), (1, 1), (2, 1), (3, 1), (4, 1), (5, 1), (6, 1), (7, 1), (8, 1)] [(2, .c (.bool true)), (8, .t 52)], some 53⟩,
  ⟨false, none, .call 25 [], some 54⟩,
  ⟨false, none, .call 20 [], some 55⟩,
  ⟨false, none, .mkSl false 256 2 (.agg (List.replicate 256 (.int .u8 0))) [(0, .t 54), (1, .t 55)], some 56⟩,
  ⟨false, none, .call 24 [.t 56], some 57⟩,
  ⟨false, none, .mov (.t 0), some 58⟩,
  ⟨false, none, .call 19 [.t 57, .t 58], some 59⟩,
  ⟨false, none, .mkSl false 1 1 (.sl .nil 0 []) [(0, .t 59)], some 60⟩,
  ⟨false, none, .call 10 [.t 53, .t 60], some 61⟩,
  ⟨false, none, .mov (.t 61), some 12⟩] (.reg [⟨false, none, .mov (.t 7), some 62⟩,
  ⟨false, none, .toStr (.t 62), some 63⟩,
  ⟨false, none, .mov (.t 8), some 64⟩,
  ⟨false, none, .toStr (.t 64), some 65⟩,
  ⟨false, none, .bin .eql (.t 63) (.t 65), some 66⟩,
  ⟨false, none, .mov (.t 66), some 67⟩,
  ⟨false, (some (67, true)), .mov (.t 9), some 68⟩,
  ⟨false, (some (67, true)), .toStr (.t 68), some 69⟩,
  ⟨false, (some (67, true)), .mov (.t 10), some 70⟩,
  ⟨false, (some (67, true)), .toStr (.t 70), some 71⟩,
  ⟨false, (some (67, true)), .bin .eql (.t 69) (.t 71), some 72⟩,
  ⟨false, none, .pick (.t 67) (.t 72) (.c (.bool false)), some 73⟩,
  ⟨false, none, .mov (.t 73), some 74⟩,
  ⟨false, (some (74, true)), .mov (.t 11), some 75⟩,
  ⟨false, (some (74, true)), .toStr (.t 75), some 76⟩,
  ⟨false, (some (74, true)), .mov (.t 12), some 77⟩,
  ⟨false, (some (74, true)), .toStr (.t 77), some 78⟩,
  ⟨false, (some (74, true)), .bin .eql (.t 76) (.t 78), some 79⟩,
  ⟨false, none, .pick (.t 74) (.t 79) (.c (.bool false)), some 80⟩,
  ⟨false, none, .mov (.t 80), some 81⟩,
  ⟨false, (some (81, true)), .call 3 [], some 82⟩,
  ⟨false, none, .pick (.t 81) (.t 82) (.c (.bool false)), some 83⟩,
  ⟨false, none, .mov (.t 83), some 4⟩] (.ret))))))))))))
def hn_8 : Hn := { M := { own := fun _ => false, rb := fun _ => none, ord := fun _ => [] }, live := fun _ => [], ms := [62, 65, 69] }
theorem kr_8 : rdy Try.prog hn_8 Try.f8 = some (rc_8, [.t 4], 84) := by kernel_rfl
theorem enA_8 : enterA Try.prog 8 = true := by kernel_rfl
theorem en_8 {args : List AV} {K : AV → ASt → Prop} {S : ASt} (hl : args.length ≤ 84) (h : wpR Try.prog rc_8 (bodyQ [.t 4] K) (argF 0 args) S) : ACalls Try.prog 8 args S K := ACalls.of Try.func8 enA_8 kr_8 hl h

/-- salvor/salvorlaw8.ConvPlays -/
def rc_9 : RC :=
  .reg [⟨false, none, .box (.t 0), some 3⟩,
  ⟨false, none, .mov (.c (.bool false)), some 6⟩] (.reg [⟨false, none, .mov (.t 1), some 10⟩,
  ⟨false, none, .call 15 [.t 10], some 11⟩,
  ⟨false, none, .not (.t 11), some 12⟩,
  ⟨false, none, .mov (.t 12), some 13⟩,
  ⟨false, (some (13, false)), .fld 8 (.t 3), some 14⟩,
  ⟨false, (some (13, false)), .load (.t 14), some 15⟩,
  ⟨false, (some (13, false)), .bin .gtr (.t 15) (.c (.int .i64 500)), some 16⟩,
  ⟨false, (some (13, false)), .mov (.t 16), some 17⟩,
  ⟨false, (some (17, true)), .fld 8 (.t 3), some 18⟩,
  ⟨false, (some (17, true)), .load (.t 18), some 19⟩,
  ⟨false, (some (17, true)), .bin .leq (.t 19) (.c (.int .i64 4096)), some 20⟩,
  ⟨false, (some (13, false)), .pick (.t 17) (.t 20) (.c (.bool false)), some 21⟩,
  ⟨false, none, .pick (.t 13) (.c (.bool true)) (.t 21), some 22⟩] (.cond (.t 22) (.reg [⟨false, none, .call 3 [], some 23⟩,
  ⟨false, none, .mov (.t 23), some 6⟩] (.ret)) (.nop) (.reg [⟨false, none, .loadN 9 (.t 3), some 24⟩,
  ⟨false, none, .loadN 9 (.t 3), some 26⟩,
  ⟨false, none, .call 16 [.t 24], some 25⟩,
  ⟨true, none, .loadN 9 (.t 3), some 26⟩,
  ⟨false, none, .call 26 [.t 26], some 27⟩,
  ⟨false, none, .mov (.t 25), some 7⟩,
  ⟨false, none, .mov (.t 27), some 8⟩] (.reg [⟨false, none, .mov (.t 7), some 28⟩,
  ⟨false, none, .eqp false (.t 28) (.c (.ptr none)), some 29⟩] (.cond (.t 29) (.reg [⟨false, none, .mov (.c (.bool false)), some 6⟩] (.ret)) (.nop) (.reg [⟨false, none, .mov (.c (.int .i64 0)), some 9⟩] (.block 0 (.loop [1, 2, 7, 8, 9] (.reg [⟨false, none, .mov (.t 9), some 30⟩,
  ⟨false, none, .mov (.t 1), some 31⟩,
  ⟨false, none, .len (.t 31), some 32⟩,
  ⟨false, none, .bin .lss (.t 30) (.t 32), some 33⟩] (.cond (.t 33) (.nop) (.exit 0) (.block 1 (.reg [⟨false, none, .mov (.t 7), some 36⟩,
  ⟨false, none, .mov (.t 1), some 37⟩,
  ⟨false, none, .mov (.t 9), some 38⟩,
  ⟨false, none, .idx 1 (.t 37) (.t 38), some 39⟩,
  ⟨false, none, .load (.t 39), some 40⟩,
  ⟨false, none, .mov (.t 8), some 43⟩,
  ⟨false, none, .mov (.t 1), some 44⟩,
  ⟨false, none, .mov (.t 9), some 45⟩,
  ⟨false, none, .idx 1 (.t 44) (.t 45), some 46⟩,
  ⟨false, none, .load (.t 46), some 47⟩,
  ⟨false, none, .call 17 [.t 36, .t 40], some 41⟩,
  ⟨true, none, .load (.t 46), some 47⟩,
  ⟨true, none, .idx 1 (.t 44) (.t 45), some 46⟩,
  ⟨false, none, .toStr (.t 41), some 42⟩,
  ⟨false, none, .call 27 [.t 43, .t 47], some 48⟩,
  ⟨true, none, .toStr (.t 41), some 42⟩,
  ⟨false, none, .toStr (.t 48), some 49⟩,
  ⟨false, none, .bin .neq (.t 42) (.t 49), some 50⟩,
  ⟨false, none, .mov (.t 50), some 51⟩,
  ⟨false, (some (51, false)), .mov (.t 7), some 52⟩,
  ⟨false, (some (51, false)), .mov (.t 8), some 54⟩,
  ⟨false, (some (51, false)), .nck (.t 54), some 55⟩,
  ⟨false, (some (51, false)), .fld 11 (.t 55), some 56⟩,
  ⟨false, (some (51, false)), .fld 1 (.t 56), some 57⟩,
  ⟨false, (some (51, false)), .load (.t 57), some 58⟩,
  ⟨false, (some (51, false)), .call 28 [.t 52], some 53⟩,
  ⟨true, (some (51, false)), .load (.t 57), some 58⟩,
  ⟨true, (some (51, false)), .fld 1 (.t 56), some 57⟩,
  ⟨true, (some (51, false)), .fld 11 (.t 55), some 56⟩,
  ⟨false, (some (51, false)), .bin .neq (.t 53) (.t 58), some 59⟩,
  ⟨false, none, .pick (.t 51) (.c (.bool true)) (.t 59), some 60⟩] (.cond (.t 60) (.reg [⟨false, none, .mov (.c (.bool false)), some 6⟩] (.ret)) (.nop) (.reg [⟨false, none, .mov (.t 9), some 61⟩,
  ⟨false, none, .mov (.t 2), some 62⟩,
  ⟨false, none, .len (.t 62), some 63⟩,
  ⟨false, none, .bin .lss (.t 61) (.t 63), some 64⟩,
  ⟨false, none, .mov (.t 64), some 65⟩,
  ⟨false, (some (65, true)), .mov (.t 2), some 66⟩,
  ⟨false, (some (65, true)), .mov (.t 9), some 67⟩,
  ⟨false, (some (65, true)), .idx 1 (.t 66) (.t 67), some 68⟩,
  ⟨false, (some (65, true)), .load (.t 68), some 69⟩,
  ⟨false, none, .pick (.t 65) (.t 69) (.c (.bool false)), some 70⟩,
  ⟨false, none, .mov (.t 70), some 71⟩,
  ⟨false, (some (71, true)), .mov (.t 7), some 72⟩,
  ⟨false, (some (71, true)), .mov (.t 8), some 75⟩,
  ⟨false, (some (71, true)), .call 18 [.t 72], some 73⟩,
  ⟨false, (some (71, true)), .toStr (.t 73), some 74⟩,
  ⟨false, (some (71, true)), .call 29 [.t 75], some 76⟩,
  ⟨true, (some (71, true)), .toStr (.t 73), some 74⟩,
  ⟨false, (some (71, true)), .toStr (.t 76), some 77⟩,
  ⟨false, (some (71, true)), .bin .neq (.t 74) (.t 77), some 78⟩,
  ⟨false, (some (71, true)), .mov (.t 78), some 79⟩,
  ⟨false, (some (79, false)), .mov (.t 7), some 80⟩,
  ⟨false, (some (79, false)), .mov (.t 8), some 82⟩,
  ⟨false, (some (79, false)), .nck (.t 82), some 83⟩,
  ⟨false, (some (79, false)), .fld 11 (.t 83), some 84⟩,
  ⟨false, (some (79, false)), .fld 1 (.t 84), some 85⟩,
  ⟨false, (some (79, false)), .load (.t 85), some 86⟩,
  ⟨false, (some (79, false)), .call 28 [.t 80], some 81⟩,
  ⟨true, (some (79, false)), .load (.t 85), some 86⟩,
  ⟨true, (some (79, false)), .fld 1 (.t 84), some 85⟩,
  ⟨true, (some (79, false)), .fld 11 (.t 83), some 84⟩,
  ⟨false, (some (79, false)), .bin .neq (.t 81) (.t 86), some 87⟩,
  ⟨false, (some (71, true)), .pick (.t 79) (.c (.bool true)) (.t 87), some 88⟩,
  ⟨false, none, .pick (.t 71) (.t 88) (.c (.bool false)), some 89⟩] (.cond (.t 89) (.reg [⟨false, none, .mov (.c (.bool false)), some 6⟩] (.ret)) (.nop) (.nop))))) (.reg [⟨false, none, .mov (.t 9), some 34⟩,
  ⟨false, none, .bin .add (.t 34) (.c (.int .i64 1)), some 35⟩,
  ⟨false, none, .mov (.t 35), some 9⟩] (.nop)))))) (.reg [⟨false, none, .mov (.t 7), some 90⟩,
  ⟨false, none, .mov (.t 8), some 93⟩,
  ⟨false, none, .call 18 [.t 90], some 91⟩,
  ⟨false, none, .toStr (.t 91), some 92⟩,
  ⟨false, none, .call 29 [.t 93], some 94⟩,
  ⟨true, none, .toStr (.t 91), some 92⟩,
  ⟨false, none, .toStr (.t 94), some 95⟩,
  ⟨false, none, .bin .eql (.t 92) (.t 95), some 96⟩,
  ⟨false, none, .mov (.t 96), some 97⟩,
  ⟨false, (some (97, true)), .mov (.t 7), some 98⟩,
  ⟨false, (some (97, true)), .mov (.t 8), some 100⟩,
  ⟨false, (some (97, true)), .nck (.t 100), some 101⟩,
  ⟨false, (some (97, true)), .fld 11 (.t 101), some 102⟩,
  ⟨false, (some (97, true)), .fld 1 (.t 102), some 103⟩,
  ⟨false, (some (97, true)), .load (.t 103), some 104⟩,
  ⟨false, (some (97, true)), .call 28 [.t 98], some 99⟩,
  ⟨true, (some (97, true)), .load (.t 103), some 104⟩,
  ⟨true, (some (97, true)), .fld 1 (.t 102), some 103⟩,
  ⟨true, (some (97, true)), .fld 11 (.t 101), some 102⟩,
  ⟨false, (some (97, true)), .bin .eql (.t 99) (.t 104), some 105⟩,
  ⟨false, none, .pick (.t 97) (.t 105) (.c (.bool false)), some 106⟩,
  ⟨false, none, .mov (.t 106), some 107⟩,
  ⟨false, (some (107, true)), .call 3 [], some 108⟩,
  ⟨false, none, .pick (.t 107) (.t 108) (.c (.bool false)), some 109⟩,
  ⟨false, none, .mov (.t 109), some 6⟩] (.ret)))))))))
def hn_9 : Hn := { M := { own := fun _ => false, rb := fun _ => none, ord := fun r => if r = 3 then [0, 2, 1, 3, 4, 5] else if r = 9 then [0, 1, 2, 3, 4, 7, 8, 9, 10, 11, 5, 6, 12, 13, 14, 15, 16, 18, 19, 20, 21, 22, 17, 23, 24] else if r = 11 then [0, 1, 2, 3, 4, 5, 6, 7, 8, 9, 10, 11, 14, 12, 13, 15, 16, 17, 18, 19, 21, 22, 23, 24, 25, 20, 26, 27, 28] else if r = 13 then [0, 3, 1, 2, 4, 5, 6, 7, 8, 10, 11, 12, 13, 14, 9, 15, 16, 17, 18, 19, 20] else [] }, live := fun r => if r = 7 then [1, 2, 7, 8, 9] else [], ms := [62, 65, 69] }
theorem kr_9 : rdy Try.prog hn_9 Try.f9 = some (rc_9, [.t 6], 110) := by kernel_rfl
theorem enA_9 : enterA Try.prog 9 = true := by kernel_rfl
theorem en_9 {args : List AV} {K : AV → ASt → Prop} {S : ASt} (hl : args.length ≤ 110) (h : wpR Try.prog rc_9 (bodyQ [.t 6] K) (argF 0 args) S) : ACalls Try.prog 9 args S K := ACalls.of Try.func9 enA_9 kr_9 hl h

/-- salvor/conv.All -/
def rc_10 : RC :=
  .reg [⟨false, none, .box (.t 0), some 2⟩,
  ⟨false, none, .mov (.c (.sl .nil 0 [])), some 4⟩] (.reg [⟨false, none, .loadN 9 (.t 2), some 9⟩,
  ⟨false, none, .call 16 [.t 9], some 10⟩,
  ⟨false, none, .mov (.t 10), some 5⟩] (.reg [⟨false, none, .mov (.c (.sl .nil 0 [])), some 6⟩] (.reg [⟨false, none, .mov (.t 1), some 11⟩,
  ⟨false, none, .len (.t 11), some 12⟩,
  ⟨false, none, .mov (.c (.int .i64 0)), some 13⟩] (.block 0 (.loop [5, 6, 11, 12, 13] (.reg [⟨false, none, .bin .lss (.t 13) (.t 12), some 14⟩] (.cond (.t 14) (.nop) (.exit 0) (.block 1 (.reg [⟨false, none, .idx 1 (.t 11) (.t 13), some 15⟩,
  ⟨false, none, .load (.t 15), some 16⟩,
  ⟨false, none, .mov (.t 16), some 8⟩] (.reg [⟨false, none, .mov (.t 6), some 17⟩,
  ⟨false, none, .mov (.t 5), some 18⟩,
  ⟨false, none, .mov (.t 8), some 19⟩,
  ⟨false, none, .call 17 [.t 18, .t 19], some 20⟩,
  ⟨false, none, .app 1 (.t 17) (.t 20), some 21⟩,
  ⟨false, none, .mov (.t 21), some 6⟩] (.nop))) (.reg [⟨false, none, .bin .add (.t 13) (.c (.int .i64 1)), some 22⟩,
  ⟨false, none, .mov (.t 22), some 13⟩] (.nop)))))) (.reg [⟨false, none, .mov (.t 6), some 23⟩,
  ⟨false, none, .mov (.t 5), some 24⟩,
  ⟨false, none, .call 18 [.t 24], some 25⟩,
  ⟨false, none, .app 1 (.t 23) (.t 25), some 26⟩,
  ⟨false, none, .mov (.t 26), some 4⟩] (.ret))))))
def hn_10 : Hn := { M := { own := fun _ => false, rb := fun _ => none, ord := fun _ => [] }, live := fun r => if r = 4 then [5, 6, 11, 12, 13] else [], ms := [62, 65, 69] }
theorem kr_10 : rdy Try.prog hn_10 Try.f10 = some (rc_10, [.t 4], 27) := by kernel_rfl
theorem enA_10 : enterA Try.prog 10 = true := by kernel_rfl
theorem en_10 {args : List AV} {K : AV → ASt → Prop} {S : ASt} (hl : args.length ≤ 27) (h : wpR Try.prog rc_10 (bodyQ [.t 4] K) (argF 0 args) S) : ACalls Try.prog 10 args S K := ACalls.of Try.func10 enA_10 kr_10 hl h

/-- salvor/conv.May -/
def rc_11 : RC :=
  .reg [⟨false, none, .box (.t 0), some 1⟩,
  ⟨false, none, .mov (.c (.bool false)), some 2⟩] (.reg [⟨false, none, .mov (.c (.int .i64 0)), some 3⟩] (.reg [⟨false, none, .loadN 9 (.t 1), some 4⟩,
  ⟨false, none, .call 30 [.t 4], some 5⟩,
  ⟨false, none, .mov (.t 5), some 6⟩,
  ⟨false, (some (6, false)), .loadN 9 (.t 1), some 7⟩,
  ⟨false, (some (6, false)), .call 31 [.t 7], some 8⟩,
  ⟨false, none, .pick (.t 6) (.c (.bool true)) (.t 8), some 9⟩] (.cond (.t 9) (.reg [⟨false, none, .mov (.c (.int .i64 1)), some 3⟩] (.nop)) (.nop) (.reg [⟨false, none, .fld 5 (.t 1), some 10⟩,
  ⟨false, none, .load (.t 10), some 11⟩,
  ⟨false, none, .fld 6 (.t 1), some 12⟩,
  ⟨false, none, .load (.t 12), some 13⟩,
  ⟨false, none, .fld 7 (.t 1), some 14⟩,
  ⟨false, none, .load (.t 14), some 15⟩,
  ⟨false, none, .mkSl false 1 3 (.bool false) [(0, .t 11), (1, .t 13), (2, .t 15)], some 16⟩,
  ⟨false, none, .call 32 [.t 16], some 17⟩,
  ⟨false, none, .not (.t 17), some 18⟩,
  ⟨false, none, .mov (.t 18), some 19⟩,
  ⟨false, (some (19, true)), .fld 3 (.t 1), some 20⟩,
  ⟨false, (some (19, true)), .load (.t 20), some 21⟩,
  ⟨false, (some (19, true)), .fld 4 (.t 1), some 22⟩,
  ⟨false, (some (19, true)), .load (.t 22), some 23⟩,
  ⟨false, (some (19, true)), .mkSl false 1 2 (.bool false) [(0, .t 21), (1, .t 23)], some 24⟩,
  ⟨false, (some (19, true)), .call 32 [.t 24], some 25⟩,
  ⟨false, (some (19, true)), .not (.t 25), some 26⟩,
  ⟨false, none, .pick (.t 19) (.t 26) (.c (.bool false)), some 27⟩,
  ⟨false, none, .mov (.t 27), some 28⟩,
  ⟨false, (some (28, true)), .loadN 9 (.t 1), some 29⟩,
  ⟨false, (some (28, true)), .loadN 9 (.t 1), some 31⟩,
  ⟨false, (some (28, true)), .call 30 [.t 29], some 30⟩,
  ⟨true, (some (28, true)), .loadN 9 (.t 1), some 31⟩,
  ⟨false, (some (28, true)), .call 31 [.t 31], some 32⟩,
  ⟨false, (some (28, true)), .mkSl false 1 2 (.bool false) [(0, .t 30), (1, .t 32)], some 33⟩,
  ⟨false, (some (28, true)), .call 32 [.t 33], some 34⟩,
  ⟨false, (some (28, true)), .not (.t 34), some 35⟩,
  ⟨false, none, .pick (.t 28) (.t 35) (.c (.bool false)), some 36⟩,
  ⟨false, none, .mov (.t 36), some 37⟩,
  ⟨false, (some (37, true)), .fld 8 (.t 1), some 38⟩,
  ⟨false, (some (37, true)), .load (.t 38), some 39⟩,
  ⟨false, (some (37, true)), .mov (.t 3), some 40⟩,
  ⟨false, (some (37, true)), .bin .geq (.t 39) (.t 40), some 41⟩,
  ⟨false, none, .pick (.t 37) (.t 41) (.c (.bool false)), some 42⟩,
  ⟨false, none, .mov (.t 42), some 43⟩,
  ⟨false, (some (43, true)), .fld 8 (.t 1), some 44⟩,
  ⟨false, (some (43, true)), .load (.t 44), some 45⟩,
  ⟨false, (some (43, true)), .bin .leq (.t 45) (.c (.int .i64 4096)), some 46⟩,
  ⟨false, none, .pick (.t 43) (.t 46) (.c (.bool false)), some 47⟩,
  ⟨false, none, .mov (.t 47), some 2⟩] (.ret)))))
def hn_11 : Hn := { M := { own := fun _ => false, rb := fun _ => none, ord := fun r => if r = 4 then [0, 1, 2, 3, 4, 5, 6, 7, 8, 9, 10, 11, 12, 13, 14, 15, 16, 17, 18, 19, 21, 20, 22, 23, 24, 25, 26, 27, 28, 29, 30, 31, 32, 33, 34, 35, 36, 37, 38] else [] }, live := fun _ => [], ms := [62, 65, 69] }
theorem kr_11 : rdy Try.prog hn_11 Try.f11 = some (rc_11, [.t 2], 48) := by kernel_rfl
theorem enA_11 : enterA Try.prog 11 = true := by kernel_rfl
theorem en_11 {args : List AV} {K : AV → ASt → Prop} {S : ASt} (hl : args.length ≤ 48) (h : wpR Try.prog rc_11 (bodyQ [.t 2] K) (argF 0 args) S) : ACalls Try.prog 11 args S K := ACalls.of Try.func11 enA_11 kr_11 hl h

/-- salvor/conv.Pad -/
def rc_12 : RC :=
  .reg [⟨false, none, .box (.t 0), some 1⟩,
  ⟨false, none, .mov (.c (.int .u8 0)), some 2⟩] (.reg [⟨false, none, .loadN 9 (.t 1), some 3⟩,
  ⟨false, none, .call 30 [.t 3], some 4⟩,
  ⟨false, none, .mov (.t 4), some 5⟩,
  ⟨false, (some (5, false)), .loadN 9 (.t 1), some 6⟩,
  ⟨false, (some (5, false)), .call 31 [.t 6], some 7⟩,
  ⟨false, none, .pick (.t 5) (.c (.bool true)) (.t 7), some 8⟩] (.cond (.t 8) (.reg [⟨false, none, .mov (.c (.int .u8 32)), some 2⟩] (.ret)) (.nop) (.reg [⟨false, none, .mov (.c (.int .u8 0)), some 2⟩] (.ret))))
def hn_12 : Hn := { M := { own := fun _ => false, rb := fun _ => none, ord := fun _ => [] }, live := fun _ => [], ms := [62, 65, 69] }
theorem kr_12 : rdy Try.prog hn_12 Try.f12 = some (rc_12, [.t 2], 9) := by kernel_rfl
theorem enA_12 : enterA Try.prog 12 = true := by kernel_rfl
theorem en_12 {args : List AV} {K : AV → ASt → Prop} {S : ASt} (hl : args.length ≤ 9) (h : wpR Try.prog rc_12 (bodyQ [.t 2] K) (argF 0 args) S) : ACalls Try.prog 12 args S K := ACalls.of Try.func12 enA_12 kr_12 hl h

/-- salvor/salvorref6.MayConvs -/
def rc_13 : RC :=
  .reg [⟨false, none, .box (.t 0), some 1⟩,
  ⟨false, none, .mov (.c (.bool false)), some 2⟩] (.reg [⟨false, none, .loadN 9 (.t 1), some 4⟩,
  ⟨false, none, .call 34 [.t 4], some 5⟩,
  ⟨false, none, .mov (.t 5), some 6⟩,
  ⟨false, (some (6, false)), .loadN 9 (.t 1), some 7⟩,
  ⟨false, (some (6, false)), .call 35 [.t 7], some 8⟩,
  ⟨false, none, .pick (.t 6) (.c (.bool true)) (.t 8), some 9⟩,
  ⟨false, none, .call 33 [.t 9], some 10⟩,
  ⟨false, none, .mov (.t 10), some 3⟩] (.reg [⟨false, none, .fld 5 (.t 1), some 11⟩,
  ⟨false, none, .load (.t 11), some 12⟩,
  ⟨false, none, .fld 6 (.t 1), some 14⟩,
  ⟨false, none, .load (.t 14), some 15⟩,
  ⟨false, none, .fld 7 (.t 1), some 18⟩,
  ⟨false, none, .load (.t 18), some 19⟩,
  ⟨false, none, .call 33 [.t 12], some 13⟩,
  ⟨true, none, .load (.t 18), some 19⟩,
  ⟨true, none, .fld 7 (.t 1), some 18⟩,
  ⟨true, none, .load (.t 14), some 15⟩,
  ⟨true, none, .fld 6 (.t 1), some 14⟩,
  ⟨false, none, .call 33 [.t 15], some 16⟩,
  ⟨true, none, .load (.t 18), some 19⟩,
  ⟨true, none, .fld 7 (.t 1), some 18⟩,
  ⟨false, none, .bin .add (.t 13) (.t 16), some 17⟩,
  ⟨false, none, .call 33 [.t 19], some 20⟩,
  ⟨false, none, .bin .add (.t 17) (.t 20), some 21⟩,
  ⟨false, none, .bin .leq (.t 21) (.c (.int .i64 1)), some 22⟩,
  ⟨false, none, .mov (.t 22), some 23⟩,
  ⟨false, (some (23, true)), .fld 3 (.t 1), some 24⟩,
  ⟨false, (some (23, true)), .load (.t 24), some 25⟩,
  ⟨false, (some (23, true)), .mov (.t 25), some 26⟩,
  ⟨false, (some (26, true)), .fld 4 (.t 1), some 27⟩,
  ⟨false, (some (26, true)), .load (.t 27), some 28⟩,
  ⟨false, (some (23, true)), .pick (.t 26) (.t 28) (.c (.bool false)), some 29⟩,
  ⟨false, (some (23, true)), .not (.t 29), some 30⟩,
  ⟨false, none, .pick (.t 23) (.t 30) (.c (.bool false)), some 31⟩,
  ⟨false, none, .mov (.t 31), some 32⟩,
  ⟨false, (some (32, true)), .loadN 9 (.t 1), some 33⟩,
  ⟨false, (some (32, true)), .call 34 [.t 33], some 34⟩,
  ⟨false, (some (32, true)), .mov (.t 34), some 35⟩,
  ⟨false, (some (35, true)), .loadN 9 (.t 1), some 36⟩,
  ⟨false, (some (35, true)), .call 35 [.t 36], some 37⟩,
  ⟨false, (some (32, true)), .pick (.t 35) (.t 37) (.c (.bool false)), some 38⟩,
  ⟨false, (some (32, true)), .not (.t 38), some 39⟩,
  ⟨false, none, .pick (.t 32) (.t 39) (.c (.bool false)), some 40⟩,
  ⟨false, none, .mov (.t 40), some 41⟩,
  ⟨false, (some (41, true)), .fld 8 (.t 1), some 42⟩,
  ⟨false, (some (41, true)), .load (.t 42), some 43⟩,
  ⟨false, (some (41, true)), .mov (.t 3), some 44⟩,
  ⟨false, (some (41, true)), .bin .geq (.t 43) (.t 44), some 45⟩,
  ⟨false, none, .pick (.t 41) (.t 45) (.c (.bool false)), some 46⟩,
  ⟨false, none, .mov (.t 46), some 47⟩,
  ⟨false, (some (47, true)), .fld 8 (.t 1), some 48⟩,
  ⟨false, (some (47, true)), .load (.t 48), some 49⟩,
  ⟨false, (some (47, true)), .bin .leq (.t 49) (.c (.int .i64 4096)), some 50⟩,
  ⟨false, none, .pick (.t 47) (.t 50) (.c (.bool false)), some 51⟩,
  ⟨false, none, .mov (.t 51), some 2⟩] (.ret)))
def hn_13 : Hn := { M := { own := fun _ => false, rb := fun _ => none, ord := fun r => if r = 2 then [0, 1, 3, 4, 7, 8, 2, 5, 6, 9, 10, 11, 12, 13, 14, 15, 16, 17, 18, 19, 20, 21, 22, 23, 24, 25, 26, 27, 28, 29, 30, 31, 32, 33, 34, 35, 36, 37, 38, 39, 40, 41] else [] }, live := fun _ => [], ms := [62, 65, 69] }
theorem kr_13 : rdy Try.prog hn_13 Try.f13 = some (rc_13, [.t 2], 52) := by kernel_rfl
theorem enA_13 : enterA Try.prog 13 = true := by kernel_rfl
theorem en_13 {args : List AV} {K : AV → ASt → Prop} {S : ASt} (hl : args.length ≤ 52) (h : wpR Try.prog rc_13 (bodyQ [.t 2] K) (argF 0 args) S) : ACalls Try.prog 13 args S K := ACalls.of Try.func13 enA_13 kr_13 hl h

/-- salvor/salvorref6.Pad -/
def rc_14 : RC :=
  .reg [⟨false, none, .box (.t 0), some 1⟩,
  ⟨false, none, .mov (.c (.int .u8 0)), some 2⟩] (.reg [⟨false, none, .loadN 9 (.t 1), some 3⟩,
  ⟨false, none, .call 34 [.t 3], some 4⟩,
  ⟨false, none, .mov (.t 4), some 5⟩,
  ⟨false, (some (5, false)), .loadN 9 (.t 1), some 6⟩,
  ⟨false, (some (5, false)), .call 35 [.t 6], some 7⟩,
  ⟨false, none, .pick (.t 5) (.c (.bool true)) (.t 7), some 8⟩] (.cond (.t 8) (.reg [⟨false, none, .mov (.c (.int .u8 32)), some 2⟩] (.ret)) (.nop) (.reg [⟨false, none, .mov (.c (.int .u8 0)), some 2⟩] (.ret))))
def hn_14 : Hn := { M := { own := fun _ => false, rb := fun _ => none, ord := fun _ => [] }, live := fun _ => [], ms := [62, 65, 69] }
theorem kr_14 : rdy Try.prog hn_14 Try.f14 = some (rc_14, [.t 2], 9) := by kernel_rfl
theorem enA_14 : enterA Try.prog 14 = true := by kernel_rfl
theorem en_14 {args : List AV} {K : AV → ASt → Prop} {S : ASt} (hl : args.length ≤ 9) (h : wpR Try.prog rc_14 (bodyQ [.t 2] K) (argF 0 args) S) : ACalls Try.prog 14 args S K := ACalls.of Try.func14 enA_14 kr_14 hl h

/-- salvor/salvorlaw8.few -/
def rc_15 : RC :=
  .reg [⟨false, none, .mov (.c (.bool false)), some 2⟩] (.reg [⟨false, none, .mov (.c (.int .i64 0)), some 3⟩] (.reg [⟨false, none, .mov (.c (.int .i64 0)), some 4⟩] (.block 0 (.loop [0, 3, 4] (.reg [⟨false, none, .mov (.t 4), some 5⟩,
  ⟨false, none, .mov (.t 0), some 6⟩,
  ⟨false, none, .len (.t 6), some 7⟩,
  ⟨false, none, .bin .lss (.t 5) (.t 7), some 8⟩,
  ⟨false, none, .mov (.t 8), some 9⟩,
  ⟨false, (some (9, true)), .mov (.t 4), some 10⟩,
  ⟨false, (some (9, true)), .bin .lss (.t 10) (.c (.int .i64 60)), some 11⟩,
  ⟨false, none, .pick (.t 9) (.t 11) (.c (.bool false)), some 12⟩] (.cond (.t 12) (.nop) (.exit 0) (.block 1 (.reg [⟨false, none, .mov (.t 0), some 15⟩,
  ⟨false, none, .mov (.t 4), some 16⟩,
  ⟨false, none, .idx 1 (.t 15) (.t 16), some 17⟩,
  ⟨false, none, .load (.t 17), some 18⟩,
  ⟨false, none, .len (.t 18), some 19⟩,
  ⟨false, none, .bin .gtr (.t 19) (.c (.int .i64 300)), some 20⟩] (.cond (.t 20) (.reg [⟨false, none, .mov (.c (.bool false)), some 2⟩] (.ret)) (.nop) (.reg [⟨false, none, .mov (.t 3), some 21⟩,
  ⟨false, none, .mov (.t 0), some 22⟩,
  ⟨false, none, .mov (.t 4), some 23⟩,
  ⟨false, none, .idx 1 (.t 22) (.t 23), some 24⟩,
  ⟨false, none, .load (.t 24), some 25⟩,
  ⟨false, none, .len (.t 25), some 26⟩,
  ⟨false, none, .bin .add (.t 21) (.t 26), some 27⟩,
  ⟨false, none, .mov (.t 27), some 3⟩] (.nop)))) (.reg [⟨false, none, .mov (.t 4), some 13⟩,
  ⟨false, none, .bin .add (.t 13) (.c (.int .i64 1)), some 14⟩,
  ⟨false, none, .mov (.t 14), some 4⟩] (.nop)))))) (.reg [⟨false, none, .mov (.t 0), some 28⟩,
  ⟨false, none, .len (.t 28), some 29⟩,
  ⟨false, none, .bin .leq (.t 29) (.c (.int .i64 30)), some 30⟩,
  ⟨false, none, .mov (.t 30), some 31⟩,
  ⟨false, (some (31, true)), .mov (.t 3), some 32⟩,
  ⟨false, (some (31, true)), .bin .leq (.t 32) (.c (.int .i64 300)), some 33⟩,
  ⟨false, none, .pick (.t 31) (.t 33) (.c (.bool false)), some 34⟩,
  ⟨false, none, .mov (.t 34), some 2⟩] (.ret)))))
def hn_15 : Hn := { M := { own := fun _ => false, rb := fun _ => none, ord := fun _ => [] }, live := fun r => if r = 3 then [0, 3, 4] else [], ms := [62, 65, 69] }
theorem kr_15 : rdy Try.prog hn_15 Try.f15 = some (rc_15, [.t 2], 35) := by kernel_rfl
theorem enA_15 : enterA Try.prog 15 = true := by kernel_rfl
theorem en_15 {args : List AV} {K : AV → ASt → Prop} {S : ASt} (hl : args.length ≤ 35) (h : wpR Try.prog rc_15 (bodyQ [.t 2] K) (argF 0 args) S) : ACalls Try.prog 15 args S K := ACalls.of Try.func15 enA_15 kr_15 hl h

/-- salvor/conv.New -/
def rc_16 : RC :=
  .reg [⟨false, none, .box (.t 0), some 1⟩,
  ⟨false, none, .mov (.c (.ptr none)), some 2⟩] (.reg [⟨false, none, .loadN 9 (.t 1), some 4⟩,
  ⟨false, none, .call 11 [.t 4], some 5⟩,
  ⟨false, none, .not (.t 5), some 6⟩] (.cond (.t 6) (.reg [⟨false, none, .build ([.bool false, .bool false, .bool false, .bool false, .bool false, .bool false, .bool false, .bool false, .int .i64 0]) [(0, 1), (1, 1), (2, 1), (3, 1), (4, 1), (5, 1), (6, 1), (7, 1), (8, 1)] [], some 7⟩,
  ⟨false, none, .st 9 (.t 1) (.t 7), none⟩] (.nop)) (.nop) (.reg [⟨false, none, .fld 0 (.t 1), some 8⟩,
  ⟨false, none, .load (.t 8), some 9⟩,
  ⟨false, none, .call 36 [.t 9], some 10⟩,
  ⟨false, none, .call 24 [.c (.sl .nil 0 [])], some 11⟩,
  ⟨false, none, .call 24 [.c (.sl .nil 0 [])], some 12⟩,
  ⟨false, none, .build ([]) [] [], some 13⟩,
  ⟨false, none, .iface 62 (.t 13), some 14⟩,
  ⟨false, none, .build ([.ptr none] ++ List.replicate 512 (.int .u8 0) ++ [.nilIface] ++ [.ptr none]) [(0, 1), (1, 256), (257, 256), (513, 1), (514, 1)] [(0, .t 10), (1, .t 11), (2, .t 12), (3, .t 14)], some 15⟩,
  ⟨false, none, .box (.t 15), some 16⟩,
  ⟨false, none, .mov (.t 16), some 3⟩] (.reg [⟨false, none, .fld 5 (.t 1), some 17⟩,
  ⟨false, none, .load (.t 17), some 18⟩] (.cond (.t 18) (.reg [⟨false, none, .mov (.t 3), some 19⟩,
  ⟨false, none, .call 25 [], some 20⟩,
  ⟨false, none, .nck (.t 19), some 21⟩,
  ⟨false, none, .fld 1 (.t 21), some 22⟩,
  ⟨false, none, .st 256 (.t 22) (.t 20), none⟩] (.nop)) (.nop) (.block 0 (.reg [⟨false, none, .fld 3 (.t 1), some 24⟩,
  ⟨false, none, .load (.t 24), some 25⟩,
  ⟨false, none, .mov (.t 25), some 23⟩] (.cond (.t 23) (.reg [⟨false, none, .mov (.t 3), some 26⟩,
  ⟨false, none, .mov (.t 3), some 27⟩,
  ⟨false, none, .nck (.t 27), some 28⟩,
  ⟨false, none, .fld 1 (.t 28), some 29⟩,
  ⟨false, none, .loadN 256 (.t 29), some 30⟩,
  ⟨false, none, .call 21 [], some 31⟩,
  ⟨true, none, .loadN 256 (.t 29), some 30⟩,
  ⟨true, none, .fld 1 (.t 28), some 29⟩,
  ⟨false, none, .mkSl false 256 2 (.agg (List.replicate 256 (.int .u8 0))) [(0, .t 30), (1, .t 31)], some 32⟩,
  ⟨false, none, .call 24 [.t 32], some 33⟩,
  ⟨false, none, .nck (.t 26), some 34⟩,
  ⟨false, none, .fld 1 (.t 34), some 35⟩,
  ⟨false, none, .st 256 (.t 35) (.t 33), none⟩] (.nop)) (.reg [⟨false, none, .fld 4 (.t 1), some 37⟩,
  ⟨false, none, .load (.t 37), some 38⟩,
  ⟨false, none, .mov (.t 38), some 36⟩] (.cond (.t 36) (.reg [⟨false, none, .mov (.t 3), some 39⟩,
  ⟨false, none, .mov (.t 3), some 40⟩,
  ⟨false, none, .nck (.t 40), some 41⟩,
  ⟨false, none, .fld 1 (.t 41), some 42⟩,
  ⟨false, none, .loadN 256 (.t 42), some 43⟩,
  ⟨false, none, .call 20 [], some 44⟩,
  ⟨true, none, .loadN 256 (.t 42), some 43⟩,
  ⟨true, none, .fld 1 (.t 41), some 42⟩,
  ⟨false, none, .mkSl false 256 2 (.agg (List.replicate 256 (.int .u8 0))) [(0, .t 43), (1, .t 44)], some 45⟩,
  ⟨false, none, .call 24 [.t 45], some 46⟩,
  ⟨false, none, .nck (.t 39), some 47⟩,
  ⟨false, none, .fld 1 (.t 47), some 48⟩,
  ⟨false, none, .st 256 (.t 48) (.t 46), none⟩] (.nop)) (.nop) (.nop))) (.nop))) (.block 1 (.reg [⟨false, none, .loadN 9 (.t 1), some 50⟩,
  ⟨false, none, .call 30 [.t 50], some 51⟩,
  ⟨false, none, .mov (.t 51), some 49⟩] (.cond (.t 49) (.reg [⟨false, none, .mov (.t 3), some 52⟩,
  ⟨false, none, .fld 8 (.t 1), some 53⟩,
  ⟨false, none, .load (.t 53), some 54⟩,
  ⟨false, none, .call 37 [.t 54], some 55⟩,
  ⟨false, none, .nck (.t 52), some 56⟩,
  ⟨false, none, .fld 514 (.t 56), some 57⟩,
  ⟨false, none, .st 1 (.t 57) (.t 55), none⟩] (.reg [⟨false, none, .mov (.t 3), some 58⟩,
  ⟨false, none, .mov (.t 3), some 59⟩,
  ⟨false, none, .nck (.t 59), some 60⟩,
  ⟨false, none, .fld 514 (.t 60), some 61⟩,
  ⟨false, none, .load (.t 61), some 62⟩,
  ⟨false, none, .iface 65 (.t 62), some 63⟩,
  ⟨false, none, .nck (.t 58), some 64⟩,
  ⟨false, none, .fld 513 (.t 64), some 65⟩,
  ⟨false, none, .st 1 (.t 65) (.t 63), none⟩] (.nop))) (.reg [⟨false, none, .loadN 9 (.t 1), some 67⟩,
  ⟨false, none, .call 31 [.t 67], some 68⟩,
  ⟨false, none, .mov (.t 68), some 66⟩] (.cond (.t 66) (.reg [⟨false, none, .mov (.t 3), some 69⟩,
  ⟨false, none, .fld 8 (.t 1), some 70⟩,
  ⟨false, none, .load (.t 70), some 71⟩,
  ⟨false, none, .call 38 [.t 71], some 72⟩,
  ⟨false, none, .iface 69 (.t 72), some 73⟩,
  ⟨false, none, .nck (.t 69), some 74⟩,
  ⟨false, none, .fld 513 (.t 74), some 75⟩,
  ⟨false, none, .st 1 (.t 75) (.t 73), none⟩] (.nop)) (.nop) (.nop))) (.nop))) (.block 2 (.reg [⟨false, none, .fld 6 (.t 1), some 77⟩,
  ⟨false, none, .load (.t 77), some 78⟩,
  ⟨false, none, .mov (.t 78), some 76⟩] (.cond (.t 76) (.reg [⟨false, none, .mov (.t 3), some 79⟩,
  ⟨false, none, .call 22 [], some 80⟩,
  ⟨false, none, .nck (.t 79), some 81⟩,
  ⟨false, none, .fld 257 (.t 81), some 82⟩,
  ⟨false, none, .st 256 (.t 82) (.t 80), none⟩] (.nop)) (.reg [⟨false, none, .fld 7 (.t 1), some 84⟩,
  ⟨false, none, .load (.t 84), some 85⟩,
  ⟨false, none, .mov (.t 85), some 83⟩] (.cond (.t 83) (.reg [⟨false, none, .mov (.t 3), some 86⟩,
  ⟨false, none, .call 23 [], some 87⟩,
  ⟨false, none, .nck (.t 86), some 88⟩,
  ⟨false, none, .fld 257 (.t 88), some 89⟩,
  ⟨false, none, .st 256 (.t 89) (.t 87), none⟩] (.nop)) (.nop) (.nop))) (.nop))) (.reg [⟨false, none, .mov (.t 3), some 90⟩,
  ⟨false, none, .mov (.t 90), some 2⟩] (.ret))))))))))
def hn_16 : Hn := { M := { own := fun _ => false, rb := fun _ => none, ord := fun r => if r = 7 then [0, 1, 2, 3, 4, 5, 6, 7, 8, 9, 10] else if r = 9 then [0, 1, 2, 3, 4, 5, 6, 7, 8, 9, 10] else [] }, live := fun _ => [], ms := [62, 65, 69] }
theorem kr_16 : rdy Try.prog hn_16 Try.f16 = some (rc_16, [.t 2], 91) := by kernel_rfl
theorem enA_16 : enterA Try.prog 16 = true := by kernel_rfl
theorem en_16 {args : List AV} {K : AV → ASt → Prop} {S : ASt} (hl : args.length ≤ 91) (h : wpR Try.prog rc_16 (bodyQ [.t 2] K) (argF 0 args) S) : ACalls Try.prog 16 args S K := ACalls.of Try.func16 enA_16 kr_16 hl h

/-- (*salvor/conv.Conv).Put -/
def rc_17 : RC :=
  .reg [⟨false, none, .mov (.c (.sl .nil 0 [])), some 4⟩] (.reg [⟨false, none, .mov (.t 0), some 5⟩,
  ⟨false, none, .mov (.t 0), some 6⟩,
  ⟨false, none, .nck (.t 6), some 7⟩,
  ⟨false, none, .fld 0 (.t 7), some 8⟩,
  ⟨false, none, .load (.t 8), some 9⟩,
  ⟨false, none, .mov (.t 1), some 10⟩,
  ⟨false, none, .call 40 [.t 9, .t 10], some 11⟩,
  ⟨false, none, .call 39 [.t 5, .t 11], some 12⟩,
  ⟨false, none, .mov (.t 12), some 4⟩] (.ret))
def hn_17 : Hn := { M := { own := fun _ => false, rb := fun _ => none, ord := fun _ => [] }, live := fun _ => [], ms := [62, 65, 69] }
theorem kr_17 : rdy Try.prog hn_17 Try.f17 = some (rc_17, [.t 4], 13) := by kernel_rfl
theorem enA_17 : enterA Try.prog 17 = true := by kernel_rfl
theorem en_17 {args : List AV} {K : AV → ASt → Prop} {S : ASt} (hl : args.length ≤ 13) (h : wpR Try.prog rc_17 (bodyQ [.t 4] K) (argF 0 args) S) : ACalls Try.prog 17 args S K := ACalls.of Try.func17 enA_17 kr_17 hl h

/-- (*salvor/conv.Conv).End -/
def rc_18 : RC :=
  .reg [⟨false, none, .mov (.c (.sl .nil 0 [])), some 2⟩] (.reg [⟨false, none, .mov (.t 0), some 4⟩,
  ⟨false, none, .mov (.t 0), some 5⟩,
  ⟨false, none, .nck (.t 5), some 6⟩,
  ⟨false, none, .fld 0 (.t 6), some 7⟩,
  ⟨false, none, .load (.t 7), some 8⟩,
  ⟨false, none, .call 41 [.t 8], some 9⟩,
  ⟨false, none, .call 39 [.t 4, .t 9], some 10⟩,
  ⟨false, none, .mov (.t 10), some 3⟩] (.reg [⟨false, none, .mov (.t 3), some 11⟩,
  ⟨false, none, .mov (.t 0), some 12⟩,
  ⟨false, none, .nck (.t 12), some 13⟩,
  ⟨false, none, .fld 257 (.t 13), some 14⟩,
  ⟨false, none, .loadN 256 (.t 14), some 15⟩,
  ⟨false, none, .mov (.t 0), some 16⟩,
  ⟨false, none, .nck (.t 16), some 17⟩,
  ⟨false, none, .fld 513 (.t 17), some 18⟩,
  ⟨false, none, .load (.t 18), some 19⟩,
  ⟨false, none, .inv (.t 19) [(62, 87), (65, 90), (69, 100)] [], some 20⟩,
  ⟨true, none, .loadN 256 (.t 14), some 15⟩,
  ⟨true, none, .fld 257 (.t 13), some 14⟩,
  ⟨false, none, .call 19 [.t 15, .t 20], some 21⟩,
  ⟨false, none, .app 1 (.t 11) (.t 21), some 22⟩,
  ⟨false, none, .mov (.t 22), some 2⟩] (.ret)))
def hn_18 : Hn := { M := { own := fun _ => false, rb := fun _ => none, ord := fun r => if r = 2 then [0, 1, 2, 3, 4, 5, 6, 7, 8, 9, 10, 11, 12] else [] }, live := fun _ => [], ms := [62, 65, 69] }
theorem kr_18 : rdy Try.prog hn_18 Try.f18 = some (rc_18, [.t 2], 23) := by kernel_rfl
theorem enA_18 : enterA Try.prog 18 = true := by kernel_rfl
theorem en_18 {args : List AV} {K : AV → ASt → Prop} {S : ASt} (hl : args.length ≤ 23) (h : wpR Try.prog rc_18 (bodyQ [.t 2] K) (argF 0 args) S) : ACalls Try.prog 18 args S K := ACalls.of Try.func18 enA_18 kr_18 hl h

/-- salvor/tab.Map -/
def rc_19 : RC :=
  .reg [⟨false, none, .box (.t 0), some 2⟩,
  ⟨false, none, .mov (.c (.sl .nil 0 [])), some 4⟩] (.reg [⟨false, none, .mov (.c (.sl .nil 0 [])), some 5⟩] (.reg [⟨false, none, .mov (.t 1), some 8⟩,
  ⟨false, none, .len (.t 8), some 9⟩,
  ⟨false, none, .mov (.c (.int .i64 0)), some 10⟩] (.block 0 (.loop [2, 5, 8, 9, 10] (.reg [⟨false, none, .bin .lss (.t 10) (.t 9), some 11⟩] (.cond (.t 11) (.nop) (.exit 0) (.block 1 (.reg [⟨false, none, .idx 1 (.t 8) (.t 10), some 12⟩,
  ⟨false, none, .load (.t 12), some 13⟩,
  ⟨false, none, .mov (.t 13), some 7⟩] (.reg [⟨false, none, .mov (.t 5), some 14⟩,
  ⟨false, none, .mov (.t 7), some 15⟩,
  ⟨false, none, .idxA 256 1 (.t 2) (.t 15), some 16⟩,
  ⟨false, none, .load (.t 16), some 17⟩,
  ⟨false, none, .mkSl false 1 1 (.int .u8 0) [(0, .t 17)], some 18⟩,
  ⟨false, none, .app 1 (.t 14) (.t 18), some 19⟩,
  ⟨false, none, .mov (.t 19), some 5⟩] (.nop))) (.reg [⟨false, none, .bin .add (.t 10) (.c (.int .i64 1)), some 20⟩,
  ⟨false, none, .mov (.t 20), some 10⟩] (.nop)))))) (.reg [⟨false, none, .mov (.t 5), some 21⟩,
  ⟨false, none, .mov (.t 21), some 4⟩] (.ret)))))
def hn_19 : Hn := { M := { own := fun _ => false, rb := fun _ => none, ord := fun _ => [] }, live := fun r => if r = 3 then [2, 5, 8, 9, 10] else [], ms := [62, 65, 69] }
theorem kr_19 : rdy Try.prog hn_19 Try.f19 = some (rc_19, [.t 4], 22) := by kernel_rfl
theorem enA_19 : enterA Try.prog 19 = true := by kernel_rfl
theorem en_19 {args : List AV} {K : AV → ASt → Prop} {S : ASt} (hl : args.length ≤ 22) (h : wpR Try.prog rc_19 (bodyQ [.t 4] K) (argF 0 args) S) : ACalls Try.prog 19 args S K := ACalls.of Try.func19 enA_19 kr_19 hl h

/-- salvor/tab.Upper -/
def rc_20 : RC :=
  .reg [⟨false, none, .alloc (List.replicate 256 (.int .u8 0)), some 0⟩] (.reg [⟨false, none, .call 42 [.c (.int .u8 97), .c (.int .u8 65)], some 1⟩,
  ⟨false, none, .st 256 (.t 0) (.t 1), none⟩] (.ret))
def hn_20 : Hn := { M := { own := fun _ => false, rb := fun _ => none, ord := fun _ => [] }, live := fun _ => [], ms := [62, 65, 69] }
theorem kr_20 : rdy Try.prog hn_20 Try.f20 = some (rc_20, [.cellN 0 256], 2) := by kernel_rfl
theorem enA_20 : enterA Try.prog 20 = true := by kernel_rfl
theorem en_20 {args : List AV} {K : AV → ASt → Prop} {S : ASt} (hl : args.length ≤ 2) (h : wpR Try.prog rc_20 (bodyQ [.cellN 0 256] K) (argF 0 args) S) : ACalls Try.prog 20 args S K := ACalls.of Try.func20 enA_20 kr_20 hl h

/-- salvor/tab.Lower -/
def rc_21 : RC :=
  .reg [⟨false, none, .alloc (List.replicate 256 (.int .u8 0)), some 0⟩] (.reg [⟨false, none, .call 42 [.c (.int .u8 65), .c (.int .u8 97)], some 1⟩,
  ⟨false, none, .st 256 (.t 0) (.t 1), none⟩] (.ret))
def hn_21 : Hn := { M := { own := fun _ => false, rb := fun _ => none, ord := fun _ => [] }, live := fun _ => [], ms := [62, 65, 69] }
theorem kr_21 : rdy Try.prog hn_21 Try.f21 = some (rc_21, [.cellN 0 256], 2) := by kernel_rfl
theorem enA_21 : enterA Try.prog 21 = true := by kernel_rfl
theorem en_21 {args : List AV} {K : AV → ASt → Prop} {S : ASt} (hl : args.length ≤ 2) (h : wpR Try.prog rc_21 (bodyQ [.cellN 0 256] K) (argF 0 args) S) : ACalls Try.prog 21 args S K := ACalls.of Try.func21 enA_21 kr_21 hl h

/-- salvor/tab.Ebcdic -/
def rc_22 : RC :=
  .reg [⟨false, none, .alloc (List.replicate 256 (.int .u8 0)), some 0⟩] (.reg [⟨false, none, .call 44 [], some 1⟩,
  ⟨false, none, .build ([.int .i64 0, .int .i64 0, .int .i64 0]) [(0, 1), (1, 1), (2, 1)] [(0, .c (.int .i64 94)), (1, .c (.int .i64 154)), (2, .c (.int .i64 1))], some 2⟩,
  ⟨false, none, .build ([.int .i64 0, .int .i64 0, .int .i64 0]) [(0, 1), (1, 1), (2, 1)] [(0, .c (.int .i64 126)), (1, .c (.int .i64 95)), (2, .c (.int .i64 1))], some 3⟩,
  ⟨false, none, .mkSl false 3 2 (.agg ([.int .i64 0, .int .i64 0, .int .i64 0])) [(0, .t 2), (1, .t 3)], some 4⟩,
  ⟨false, none, .app 3 (.t 1) (.t 4), some 5⟩,
  ⟨false, none, .call 43 [.t 5], some 6⟩,
  ⟨false, none, .st 256 (.t 0) (.t 6), none⟩] (.ret))
def hn_22 : Hn := { M := { own := fun _ => false, rb := fun _ => none, ord := fun _ => [] }, live := fun _ => [], ms := [62, 65, 69] }
theorem kr_22 : rdy Try.prog hn_22 Try.f22 = some (rc_22, [.cellN 0 256], 7) := by kernel_rfl
theorem enA_22 : enterA Try.prog 22 = true := by kernel_rfl
theorem en_22 {args : List AV} {K : AV → ASt → Prop} {S : ASt} (hl : args.length ≤ 7) (h : wpR Try.prog rc_22 (bodyQ [.cellN 0 256] K) (argF 0 args) S) : ACalls Try.prog 22 args S K := ACalls.of Try.func22 enA_22 kr_22 hl h

/-- salvor/tab.Ibm -/
def rc_23 : RC :=
  .reg [⟨false, none, .alloc (List.replicate 256 (.int .u8 0)), some 0⟩] (.reg [⟨false, none, .call 44 [], some 1⟩,
  ⟨false, none, .build ([.int .i64 0, .int .i64 0, .int .i64 0]) [(0, 1), (1, 1), (2, 1)] [(0, .c (.int .i64 94)), (1, .c (.int .i64 95)), (2, .c (.int .i64 1))], some 2⟩,
  ⟨false, none, .build ([.int .i64 0, .int .i64 0, .int .i64 0]) [(0, 1), (1, 1), (2, 1)] [(0, .c (.int .i64 126)), (1, .c (.int .i64 161)), (2, .c (.int .i64 1))], some 3⟩,
  ⟨false, none, .mkSl false 3 2 (.agg ([.int .i64 0, .int .i64 0, .int .i64 0])) [(0, .t 2), (1, .t 3)], some 4⟩,
  ⟨false, none, .app 3 (.t 1) (.t 4), some 5⟩,
  ⟨false, none, .call 43 [.t 5], some 6⟩,
  ⟨false, none, .st 256 (.t 0) (.t 6), none⟩] (.ret))
def hn_23 : Hn := { M := { own := fun _ => false, rb := fun _ => none, ord := fun _ => [] }, live := fun _ => [], ms := [62, 65, 69] }
theorem kr_23 : rdy Try.prog hn_23 Try.f23 = some (rc_23, [.cellN 0 256], 7) := by kernel_rfl
theorem enA_23 : enterA Try.prog 23 = true := by kernel_rfl
theorem en_23 {args : List AV} {K : AV → ASt → Prop} {S : ASt} (hl : args.length ≤ 7) (h : wpR Try.prog rc_23 (bodyQ [.cellN 0 256] K) (argF 0 args) S) : ACalls Try.prog 23 args S K := ACalls.of Try.func23 enA_23 kr_23 hl h

/-- salvor/tab.Then -/
def rc_24 : RC :=
  .reg [⟨false, none, .alloc (List.replicate 256 (.int .u8 0)), some 2⟩] (.reg [⟨false, none, .call 45 [], some 7⟩,
  ⟨false, none, .alloc (List.replicate 256 (.int .u8 0)), some 3⟩,
  ⟨false, none, .st 256 (.t 3) (.t 7), none⟩] (.reg [⟨false, none, .mov (.t 0), some 8⟩,
  ⟨false, none, .len (.t 8), some 9⟩,
  ⟨false, none, .mov (.c (.int .i64 0)), some 10⟩] (.block 0 (.loop [2, 3, 8, 9, 10] (.reg [⟨false, none, .bin .lss (.t 10) (.t 9), some 11⟩] (.cond (.t 11) (.nop) (.exit 0) (.block 1 (.reg [⟨false, none, .idx 256 (.t 8) (.t 10), some 12⟩,
  ⟨false, none, .loadN 256 (.t 12), some 13⟩,
  ⟨false, none, .alloc (List.replicate 256 (.int .u8 0)), some 5⟩,
  ⟨false, none, .st 256 (.t 5) (.t 13), none⟩] (.reg [⟨false, none, .mov (.c (.int .i64 0)), some 14⟩] (.block 2 (.loop [2, 3, 5, 8, 9, 10, 14] (.reg [⟨false, none, .bin .lss (.t 14) (.c (.int .i64 256)), some 15⟩] (.cond (.t 15) (.nop) (.exit 2) (.block 3 (.reg [⟨false, none, .mov (.t 14), some 16⟩,
  ⟨false, none, .mov (.t 16), some 6⟩] (.reg [⟨false, none, .mov (.t 6), some 17⟩,
  ⟨false, none, .mov (.t 6), some 18⟩,
  ⟨false, none, .idxA 256 1 (.t 3) (.t 18), some 19⟩,
  ⟨false, none, .load (.t 19), some 20⟩,
  ⟨false, none, .idxA 256 1 (.t 5) (.t 20), some 21⟩,
  ⟨false, none, .load (.t 21), some 22⟩,
  ⟨false, none, .idxA 256 1 (.t 3) (.t 17), some 23⟩,
  ⟨false, none, .st 1 (.t 23) (.t 22), none⟩] (.nop))) (.reg [⟨false, none, .bin .add (.t 14) (.c (.int .i64 1)), some 24⟩,
  ⟨false, none, .mov (.t 24), some 14⟩] (.nop)))))) (.nop)))) (.reg [⟨false, none, .bin .add (.t 10) (.c (.int .i64 1)), some 25⟩,
  ⟨false, none, .mov (.t 25), some 10⟩] (.nop)))))) (.reg [⟨false, none, .loadN 256 (.t 3), some 26⟩,
  ⟨false, none, .st 256 (.t 2) (.t 26), none⟩] (.ret)))))
def hn_24 : Hn := { M := { own := fun _ => false, rb := fun _ => none, ord := fun _ => [] }, live := fun r => if r = 3 then [2, 3, 8, 9, 10] else if r = 6 then [2, 3, 5, 8, 9, 10, 14] else [], ms := [62, 65, 69] }
theorem kr_24 : rdy Try.prog hn_24 Try.f24 = some (rc_24, [.cellN 2 256], 27) := by kernel_rfl
theorem enA_24 : enterA Try.prog 24 = true := by kernel_rfl
theorem en_24 {args : List AV} {K : AV → ASt → Prop} {S : ASt} (hl : args.length ≤ 27) (h : wpR Try.prog rc_24 (bodyQ [.cellN 2 256] K) (argF 0 args) S) : ACalls Try.prog 24 args S K := ACalls.of Try.func24 enA_24 kr_24 hl h

/-- salvor/tab.Ascii -/
def rc_25 : RC :=
  .reg [⟨false, none, .alloc (List.replicate 256 (.int .u8 0)), some 0⟩] (.reg [⟨false, none, .alloc (List.replicate 256 (.int .u8 0)), some 1⟩] (.reg [⟨false, none, .call 22 [], some 4⟩,
  ⟨false, none, .mov (.c (.int .i64 0)), some 5⟩] (.block 0 (.loop [0, 1, 4, 5] (.reg [⟨false, none, .bin .lss (.t 5) (.c (.int .i64 256)), some 6⟩] (.cond (.t 6) (.nop) (.exit 0) (.block 1 (.reg [⟨false, none, .mov (.t 5), some 7⟩,
  ⟨false, none, .ixA 256 (.t 4) (.t 5), some 8⟩,
  ⟨false, none, .mov (.t 7), some 2⟩,
  ⟨false, none, .mov (.t 8), some 3⟩] (.reg [⟨false, none, .mov (.t 3), some 9⟩,
  ⟨false, none, .mov (.t 2), some 10⟩,
  ⟨false, none, .toInt .u8 (.t 10), some 11⟩,
  ⟨false, none, .idxA 256 1 (.t 1) (.t 9), some 12⟩,
  ⟨false, none, .st 1 (.t 12) (.t 11), none⟩] (.nop))) (.reg [⟨false, none, .bin .add (.t 5) (.c (.int .i64 1)), some 13⟩,
  ⟨false, none, .mov (.t 13), some 5⟩] (.nop)))))) (.reg [⟨false, none, .loadN 256 (.t 1), some 14⟩,
  ⟨false, none, .st 256 (.t 0) (.t 14), none⟩] (.ret)))))
def hn_25 : Hn := { M := { own := fun _ => false, rb := fun _ => none, ord := fun _ => [] }, live := fun r => if r = 3 then [0, 1, 4, 5] else [], ms := [62, 65, 69] }
theorem kr_25 : rdy Try.prog hn_25 Try.f25 = some (rc_25, [.cellN 0 256], 15) := by kernel_rfl
theorem enA_25 : enterA Try.prog 25 = true := by kernel_rfl
theorem en_25 {args : List AV} {K : AV → ASt → Prop} {S : ASt} (hl : args.length ≤ 15) (h : wpR Try.prog rc_25 (bodyQ [.cellN 0 256] K) (argF 0 args) S) : ACalls Try.prog 25 args S K := ACalls.of Try.func25 enA_25 kr_25 hl h

/-- salvor/salvorref6.NewConv -/
def rc_26 : RC :=
  .reg [⟨false, none, .box (.t 0), some 1⟩,
  ⟨false, none, .mov (.c (.ptr none)), some 2⟩] (.reg [⟨false, none, .loadN 9 (.t 1), some 3⟩,
  ⟨false, none, .call 13 [.t 3], some 4⟩,
  ⟨false, none, .not (.t 4), some 5⟩] (.cond (.t 5) (.reg [⟨false, none, .build ([.bool false, .bool false, .bool false, .bool false, .bool false, .bool false, .bool false, .bool false, .int .i64 0]) [(0, 1), (1, 1), (2, 1), (3, 1), (4, 1), (5, 1), (6, 1), (7, 1), (8, 1)] [], some 6⟩,
  ⟨false, none, .st 9 (.t 1) (.t 6), none⟩] (.nop)) (.nop) (.reg [⟨false, none, .loadN 9 (.t 1), some 7⟩,
  ⟨false, none, .fld 0 (.t 1), some 8⟩,
  ⟨false, none, .load (.t 8), some 9⟩,
  ⟨false, none, .build ([.bool false, .sl .nil 0 []]) [(0, 1), (1, 1)] [(0, .t 9)], some 10⟩,
  ⟨false, none, .fld 8 (.t 1), some 11⟩,
  ⟨false, none, .load (.t 11), some 12⟩,
  ⟨false, none, .build ([.int .i64 0, .int .i64 0, .sl .nil 0 []]) [(0, 1), (1, 1), (2, 1)] [(0, .t 12)], some 13⟩,
  ⟨false, none, .fld 8 (.t 1), some 14⟩,
  ⟨false, none, .load (.t 14), some 15⟩,
  ⟨false, none, .build ([.int .i64 0, .sl .nil 0 []]) [(0, 1), (1, 1)] [(0, .t 15)], some 16⟩,
  ⟨false, none, .build ([.bool false, .bool false, .bool false, .bool false, .bool false, .bool false, .bool false, .bool false, .int .i64 0, .bool false, .sl .nil 0 [], .int .i64 0, .int .i64 0, .sl .nil 0 [], .int .i64 0, .sl .nil 0 []]) [(0, 9), (9, 2), (11, 3), (14, 2)] [(0, .t 7), (1, .t 10), (2, .t 13), (3, .t 16)], some 17⟩,
  ⟨false, none, .box (.t 17), some 18⟩,
  ⟨false, none, .mov (.t 18), some 2⟩] (.ret))))
def hn_26 : Hn := { M := { own := fun _ => false, rb := fun _ => none, ord := fun _ => [] }, live := fun _ => [], ms := [62, 65, 69] }
theorem kr_26 : rdy Try.prog hn_26 Try.f26 = some (rc_26, [.t 2], 19) := by kernel_rfl
theorem enA_26 : enterA Try.prog 26 = true := by kernel_rfl
theorem en_26 {args : List AV} {K : AV → ASt → Prop} {S : ASt} (hl : args.length ≤ 19) (h : wpR Try.prog rc_26 (bodyQ [.t 2] K) (argF 0 args) S) : ACalls Try.prog 26 args S K := ACalls.of Try.func26 enA_26 kr_26 hl h

/-- (*salvor/salvorref6.Conv).Put -/
def rc_27 : RC :=
  .reg [⟨false, none, .mov (.c (.sl .nil 0 [])), some 4⟩] (.reg [⟨false, none, .mov (.t 0), some 5⟩,
  ⟨false, none, .mov (.t 0), some 6⟩,
  ⟨false, none, .mov (.t 0), some 7⟩,
  ⟨false, none, .mov (.t 0), some 8⟩,
  ⟨false, none, .nck (.t 8), some 9⟩,
  ⟨false, none, .fld 9 (.t 9), some 10⟩,
  ⟨false, none, .mov (.t 1), some 11⟩,
  ⟨false, none, .call 49 [.t 10, .t 11], some 12⟩,
  ⟨false, none, .call 48 [.t 7, .t 12], some 13⟩,
  ⟨false, none, .call 47 [.t 6, .t 13], some 14⟩,
  ⟨false, none, .call 46 [.t 5, .t 14], some 15⟩,
  ⟨false, none, .mov (.t 15), some 4⟩] (.ret))
def hn_27 : Hn := { M := { own := fun _ => false, rb := fun _ => none, ord := fun _ => [] }, live := fun _ => [], ms := [62, 65, 69] }
theorem kr_27 : rdy Try.prog hn_27 Try.f27 = some (rc_27, [.t 4], 16) := by kernel_rfl
theorem enA_27 : enterA Try.prog 27 = true := by kernel_rfl
theorem en_27 {args : List AV} {K : AV → ASt → Prop} {S : ASt} (hl : args.length ≤ 16) (h : wpR Try.prog rc_27 (bodyQ [.t 4] K) (argF 0 args) S) : ACalls Try.prog 27 args S K := ACalls.of Try.func27 enA_27 kr_27 hl h

/-- (*salvor/conv.Conv).Cut -/
def rc_28 : RC :=
  .reg [⟨false, none, .mov (.c (.int .i64 0)), some 2⟩] (.reg [⟨false, none, .mov (.t 0), some 3⟩,
  ⟨false, none, .nck (.t 3), some 4⟩,
  ⟨false, none, .fld 514 (.t 4), some 5⟩,
  ⟨false, none, .load (.t 5), some 6⟩,
  ⟨false, none, .eqp false (.t 6) (.c (.ptr none)), some 7⟩] (.cond (.t 7) (.reg [⟨false, none, .mov (.c (.int .i64 0)), some 2⟩] (.ret)) (.nop) (.reg [⟨false, none, .mov (.t 0), some 8⟩,
  ⟨false, none, .nck (.t 8), some 9⟩,
  ⟨false, none, .fld 514 (.t 9), some 10⟩,
  ⟨false, none, .load (.t 10), some 11⟩,
  ⟨false, none, .call 50 [.t 11], some 12⟩,
  ⟨false, none, .mov (.t 12), some 2⟩] (.ret))))
def hn_28 : Hn := { M := { own := fun _ => false, rb := fun _ => none, ord := fun _ => [] }, live := fun _ => [], ms := [62, 65, 69] }
theorem kr_28 : rdy Try.prog hn_28 Try.f28 = some (rc_28, [.t 2], 13) := by kernel_rfl
theorem enA_28 : enterA Try.prog 28 = true := by kernel_rfl
theorem en_28 {args : List AV} {K : AV → ASt → Prop} {S : ASt} (hl : args.length ≤ 13) (h : wpR Try.prog rc_28 (bodyQ [.t 2] K) (argF 0 args) S) : ACalls Try.prog 28 args S K := ACalls.of Try.func28 enA_28 kr_28 hl h

/-- (*salvor/salvorref6.Conv).End -/
def rc_29 : RC :=
  .reg [⟨false, none, .mov (.c (.sl .nil 0 [])), some 2⟩] (.reg [⟨false, none, .mov (.t 0), some 4⟩,
  ⟨false, none, .mov (.t 0), some 5⟩,
  ⟨false, none, .mov (.t 0), some 6⟩,
  ⟨false, none, .mov (.t 0), some 7⟩,
  ⟨false, none, .nck (.t 7), some 8⟩,
  ⟨false, none, .fld 9 (.t 8), some 9⟩,
  ⟨false, none, .call 51 [.t 9], some 10⟩,
  ⟨false, none, .call 48 [.t 6, .t 10], some 11⟩,
  ⟨false, none, .call 47 [.t 5, .t 11], some 12⟩,
  ⟨false, none, .call 46 [.t 4, .t 12], some 13⟩,
  ⟨false, none, .mov (.t 13), some 3⟩] (.block 0 (.reg [⟨false, none, .mov (.t 0), some 15⟩,
  ⟨false, none, .nck (.t 15), some 16⟩,
  ⟨false, none, .fld 0 (.t 16), some 17⟩,
  ⟨false, none, .loadN 9 (.t 17), some 18⟩,
  ⟨false, none, .call 34 [.t 18], some 19⟩,
  ⟨false, none, .mov (.t 19), some 14⟩] (.cond (.t 14) (.reg [⟨false, none, .mov (.t 3), some 20⟩,
  ⟨false, none, .mov (.t 0), some 21⟩,
  ⟨false, none, .mov (.t 0), some 22⟩,
  ⟨false, none, .nck (.t 22), some 23⟩,
  ⟨false, none, .fld 11 (.t 23), some 24⟩,
  ⟨false, none, .call 52 [.t 24], some 25⟩,
  ⟨false, none, .call 46 [.t 21, .t 25], some 26⟩,
  ⟨false, none, .app 1 (.t 20) (.t 26), some 27⟩,
  ⟨false, none, .mov (.t 27), some 2⟩] (.ret)) (.reg [⟨false, none, .mov (.t 0), some 29⟩,
  ⟨false, none, .nck (.t 29), some 30⟩,
  ⟨false, none, .fld 0 (.t 30), some 31⟩,
  ⟨false, none, .loadN 9 (.t 31), some 32⟩,
  ⟨false, none, .call 35 [.t 32], some 33⟩,
  ⟨false, none, .mov (.t 33), some 28⟩] (.cond (.t 28) (.reg [⟨false, none, .mov (.t 3), some 34⟩,
  ⟨false, none, .mov (.t 0), some 35⟩,
  ⟨false, none, .mov (.t 0), some 36⟩,
  ⟨false, none, .nck (.t 36), some 37⟩,
  ⟨false, none, .fld 14 (.t 37), some 38⟩,
  ⟨false, none, .call 53 [.t 38], some 39⟩,
  ⟨false, none, .call 46 [.t 35, .t 39], some 40⟩,
  ⟨false, none, .app 1 (.t 34) (.t 40), some 41⟩,
  ⟨false, none, .mov (.t 41), some 2⟩] (.ret)) (.nop) (.nop))) (.nop))) (.reg [⟨false, none, .mov (.t 3), some 42⟩,
  ⟨false, none, .mov (.t 42), some 2⟩] (.ret))))
def hn_29 : Hn := { M := { own := fun _ => false, rb := fun _ => none, ord := fun _ => [] }, live := fun _ => [], ms := [62, 65, 69] }
theorem kr_29 : rdy Try.prog hn_29 Try.f29 = some (rc_29, [.t 2], 43) := by kernel_rfl
theorem enA_29 : enterA Try.prog 29 = true := by kernel_rfl
theorem en_29 {args : List AV} {K : AV → ASt → Prop} {S : ASt} (hl : args.length ≤ 43) (h : wpR Try.prog rc_29 (bodyQ [.t 2] K) (argF 0 args) S) : ACalls Try.prog 29 args S K := ACalls.of Try.func29 enA_29 kr_29 hl h

/-- salvor/conv.blocks -/
def rc_30 : RC :=
  .reg [⟨false, none, .box (.t 0), some 1⟩,
  ⟨false, none, .mov (.c (.bool false)), some 2⟩] (.reg [⟨false, none, .fld 1 (.t 1), some 3⟩,
  ⟨false, none, .load (.t 3), some 4⟩,
  ⟨false, none, .mov (.t 4), some 5⟩,
  ⟨false, (some (5, false)), .fld 6 (.t 1), some 6⟩,
  ⟨false, (some (5, false)), .load (.t 6), some 7⟩,
  ⟨false, none, .pick (.t 5) (.c (.bool true)) (.t 7), some 8⟩,
  ⟨false, none, .mov (.t 8), some 9⟩,
  ⟨false, (some (9, false)), .fld 7 (.t 1), some 10⟩,
  ⟨false, (some (9, false)), .load (.t 10), some 11⟩,
  ⟨false, none, .pick (.t 9) (.c (.bool true)) (.t 11), some 12⟩,
  ⟨false, none, .mov (.t 12), some 2⟩] (.ret))
def hn_30 : Hn := { M := { own := fun _ => false, rb := fun _ => none, ord := fun _ => [] }, live := fun _ => [], ms := [62, 65, 69] }
theorem kr_30 : rdy Try.prog hn_30 Try.f30 = some (rc_30, [.t 2], 13) := by kernel_rfl
theorem enA_30 : enterA Try.prog 30 = true := by kernel_rfl
theorem en_30 {args : List AV} {K : AV → ASt → Prop} {S : ASt} (hl : args.length ≤ 13) (h : wpR Try.prog rc_30 (bodyQ [.t 2] K) (argF 0 args) S) : ACalls Try.prog 30 args S K := ACalls.of Try.func30 enA_30 kr_30 hl h

/-- salvor/conv.unblocks -/
def rc_31 : RC :=
  .reg [⟨false, none, .box (.t 0), some 1⟩,
  ⟨false, none, .mov (.c (.bool false)), some 2⟩] (.reg [⟨false, none, .fld 2 (.t 1), some 3⟩,
  ⟨false, none, .load (.t 3), some 4⟩,
  ⟨false, none, .mov (.t 4), some 5⟩,
  ⟨false, (some (5, false)), .fld 5 (.t 1), some 6⟩,
  ⟨false, (some (5, false)), .load (.t 6), some 7⟩,
  ⟨false, none, .pick (.t 5) (.c (.bool true)) (.t 7), some 8⟩,
  ⟨false, none, .mov (.t 8), some 2⟩] (.ret))
def hn_31 : Hn := { M := { own := fun _ => false, rb := fun _ => none, ord := fun _ => [] }, live := fun _ => [], ms := [62, 65, 69] }
theorem kr_31 : rdy Try.prog hn_31 Try.f31 = some (rc_31, [.t 2], 9) := by kernel_rfl
theorem enA_31 : enterA Try.prog 31 = true := by kernel_rfl
theorem en_31 {args : List AV} {K : AV → ASt → Prop} {S : ASt} (hl : args.length ≤ 9) (h : wpR Try.prog rc_31 (bodyQ [.t 2] K) (argF 0 args) S) : ACalls Try.prog 31 args S K := ACalls.of Try.func31 enA_31 kr_31 hl h

/-- salvor/conv.two -/
def rc_32 : RC :=
  .reg [⟨false, none, .mov (.c (.bool false)), some 2⟩] (.reg [⟨false, none, .mov (.c (.int .i64 0)), some 3⟩] (.reg [⟨false, none, .mov (.t 0), some 6⟩,
  ⟨false, none, .len (.t 6), some 7⟩,
  ⟨false, none, .mov (.c (.int .i64 0)), some 8⟩] (.block 0 (.loop [3, 6, 7, 8] (.reg [⟨false, none, .bin .lss (.t 8) (.t 7), some 9⟩] (.cond (.t 9) (.nop) (.exit 0) (.block 1 (.reg [⟨false, none, .idx 1 (.t 6) (.t 8), some 10⟩,
  ⟨false, none, .load (.t 10), some 11⟩,
  ⟨false, none, .mov (.t 11), some 5⟩] (.reg [⟨false, none, .mov (.t 5), some 12⟩] (.cond (.t 12) (.reg [⟨false, none, .mov (.t 3), some 13⟩,
  ⟨false, none, .bin .add (.t 13) (.c (.int .i64 1)), some 14⟩,
  ⟨false, none, .mov (.t 14), some 3⟩] (.nop)) (.nop) (.nop)))) (.reg [⟨false, none, .bin .add (.t 8) (.c (.int .i64 1)), some 15⟩,
  ⟨false, none, .mov (.t 15), some 8⟩] (.nop)))))) (.reg [⟨false, none, .mov (.t 3), some 16⟩,
  ⟨false, none, .bin .gtr (.t 16) (.c (.int .i64 1)), some 17⟩,
  ⟨false, none, .mov (.t 17), some 2⟩] (.ret)))))
def hn_32 : Hn := { M := { own := fun _ => false, rb := fun _ => none, ord := fun _ => [] }, live := fun r => if r = 3 then [3, 6, 7, 8] else [], ms := [62, 65, 69] }
theorem kr_32 : rdy Try.prog hn_32 Try.f32 = some (rc_32, [.t 2], 18) := by kernel_rfl
theorem enA_32 : enterA Try.prog 32 = true := by kernel_rfl
theorem en_32 {args : List AV} {K : AV → ASt → Prop} {S : ASt} (hl : args.length ≤ 18) (h : wpR Try.prog rc_32 (bodyQ [.t 2] K) (argF 0 args) S) : ACalls Try.prog 32 args S K := ACalls.of Try.func32 enA_32 kr_32 hl h

/-- salvor/salvorref6.one -/
def rc_33 : RC :=
  .reg [⟨false, none, .mov (.c (.int .i64 0)), some 2⟩] (.reg [⟨false, none, .mov (.t 0), some 3⟩] (.cond (.t 3) (.reg [⟨false, none, .mov (.c (.int .i64 1)), some 2⟩] (.ret)) (.nop) (.reg [⟨false, none, .mov (.c (.int .i64 0)), some 2⟩] (.ret))))
def hn_33 : Hn := { M := { own := fun _ => false, rb := fun _ => none, ord := fun _ => [] }, live := fun _ => [], ms := [62, 65, 69] }
theorem kr_33 : rdy Try.prog hn_33 Try.f33 = some (rc_33, [.t 2], 4) := by kernel_rfl
theorem enA_33 : enterA Try.prog 33 = true := by kernel_rfl
theorem en_33 {args : List AV} {K : AV → ASt → Prop} {S : ASt} (hl : args.length ≤ 4) (h : wpR Try.prog rc_33 (bodyQ [.t 2] K) (argF 0 args) S) : ACalls Try.prog 33 args S K := ACalls.of Try.func33 enA_33 kr_33 hl h

/-- salvor/salvorref6.Blocks -/
def rc_34 : RC :=
  .reg [⟨false, none, .box (.t 0), some 1⟩,
  ⟨false, none, .mov (.c (.bool false)), some 2⟩] (.reg [⟨false, none, .fld 1 (.t 1), some 3⟩,
  ⟨false, none, .load (.t 3), some 4⟩,
  ⟨false, none, .mov (.t 4), some 5⟩,
  ⟨false, (some (5, false)), .fld 6 (.t 1), some 6⟩,
  ⟨false, (some (5, false)), .load (.t 6), some 7⟩,
  ⟨false, none, .pick (.t 5) (.c (.bool true)) (.t 7), some 8⟩,
  ⟨false, none, .mov (.t 8), some 9⟩,
  ⟨false, (some (9, false)), .fld 7 (.t 1), some 10⟩,
  ⟨false, (some (9, false)), .load (.t 10), some 11⟩,
  ⟨false, none, .pick (.t 9) (.c (.bool true)) (.t 11), some 12⟩,
  ⟨false, none, .mov (.t 12), some 2⟩] (.ret))
def hn_34 : Hn := { M := { own := fun _ => false, rb := fun _ => none, ord := fun _ => [] }, live := fun _ => [], ms := [62, 65, 69] }
theorem kr_34 : rdy Try.prog hn_34 Try.f34 = some (rc_34, [.t 2], 13) := by kernel_rfl
theorem enA_34 : enterA Try.prog 34 = true := by kernel_rfl
theorem en_34 {args : List AV} {K : AV → ASt → Prop} {S : ASt} (hl : args.length ≤ 13) (h : wpR Try.prog rc_34 (bodyQ [.t 2] K) (argF 0 args) S) : ACalls Try.prog 34 args S K := ACalls.of Try.func34 enA_34 kr_34 hl h

/-- salvor/salvorref6.Unblocks -/
def rc_35 : RC :=
  .reg [⟨false, none, .box (.t 0), some 1⟩,
  ⟨false, none, .mov (.c (.bool false)), some 2⟩] (.reg [⟨false, none, .fld 2 (.t 1), some 3⟩,
  ⟨false, none, .load (.t 3), some 4⟩,
  ⟨false, none, .mov (.t 4), some 5⟩,
  ⟨false, (some (5, false)), .fld 5 (.t 1), some 6⟩,
  ⟨false, (some (5, false)), .load (.t 6), some 7⟩,
  ⟨false, none, .pick (.t 5) (.c (.bool true)) (.t 7), some 8⟩,
  ⟨false, none, .mov (.t 8), some 2⟩] (.ret))
def hn_35 : Hn := { M := { own := fun _ => false, rb := fun _ => none, ord := fun _ => [] }, live := fun _ => [], ms := [62, 65, 69] }
theorem kr_35 : rdy Try.prog hn_35 Try.f35 = some (rc_35, [.t 2], 9) := by kernel_rfl
theorem enA_35 : enterA Try.prog 35 = true := by kernel_rfl
theorem en_35 {args : List AV} {K : AV → ASt → Prop} {S : ASt} (hl : args.length ≤ 9) (h : wpR Try.prog rc_35 (bodyQ [.t 2] K) (argF 0 args) S) : ACalls Try.prog 35 args S K := ACalls.of Try.func35 enA_35 kr_35 hl h

/-- salvor/swab.New -/
def rc_36 : RC :=
  .reg [⟨false, none, .mov (.c (.ptr none)), some 2⟩] (.reg [⟨false, none, .mov (.t 0), some 3⟩,
  ⟨false, none, .build ([.bool false, .sl .nil 0 []]) [(0, 1), (1, 1)] [(0, .t 3)], some 4⟩,
  ⟨false, none, .box (.t 4), some 5⟩,
  ⟨false, none, .mov (.t 5), some 2⟩] (.ret))
def hn_36 : Hn := { M := { own := fun _ => false, rb := fun _ => none, ord := fun _ => [] }, live := fun _ => [], ms := [62, 65, 69] }
theorem kr_36 : rdy Try.prog hn_36 Try.f36 = some (rc_36, [.t 2], 6) := by kernel_rfl
theorem enA_36 : enterA Try.prog 36 = true := by kernel_rfl
theorem en_36 {args : List AV} {K : AV → ASt → Prop} {S : ASt} (hl : args.length ≤ 6) (h : wpR Try.prog rc_36 (bodyQ [.t 2] K) (argF 0 args) S) : ACalls Try.prog 36 args S K := ACalls.of Try.func36 enA_36 kr_36 hl h

/-- salvor/fixed.NewPacker -/
def rc_37 : RC :=
  .reg [⟨false, none, .mov (.c (.ptr none)), some 2⟩] (.reg [⟨false, none, .mov (.t 0), some 3⟩,
  ⟨false, none, .call 54 [.t 3], some 4⟩,
  ⟨false, none, .build ([.int .i64 0, .sl .nil 0 [], .int .i64 0, .int .i64 0]) [(0, 3), (3, 1)] [(0, .t 4)], some 5⟩,
  ⟨false, none, .box (.t 5), some 6⟩,
  ⟨false, none, .mov (.t 6), some 2⟩] (.ret))
def hn_37 : Hn := { M := { own := fun _ => false, rb := fun _ => none, ord := fun _ => [] }, live := fun _ => [], ms := [62, 65, 69] }
theorem kr_37 : rdy Try.prog hn_37 Try.f37 = some (rc_37, [.t 2], 7) := by kernel_rfl
theorem enA_37 : enterA Try.prog 37 = true := by kernel_rfl
theorem en_37 {args : List AV} {K : AV → ASt → Prop} {S : ASt} (hl : args.length ≤ 7) (h : wpR Try.prog rc_37 (bodyQ [.t 2] K) (argF 0 args) S) : ACalls Try.prog 37 args S K := ACalls.of Try.func37 enA_37 kr_37 hl h

/-- salvor/fixed.NewUnpacker -/
def rc_38 : RC :=
  .reg [⟨false, none, .mov (.c (.ptr none)), some 2⟩] (.reg [⟨false, none, .mov (.t 0), some 3⟩,
  ⟨false, none, .call 54 [.t 3], some 4⟩,
  ⟨false, none, .build ([.int .i64 0, .sl .nil 0 [], .int .i64 0]) [(0, 3)] [(0, .t 4)], some 5⟩,
  ⟨false, none, .box (.t 5), some 6⟩,
  ⟨false, none, .mov (.t 6), some 2⟩] (.ret))
def hn_38 : Hn := { M := { own := fun _ => false, rb := fun _ => none, ord := fun _ => [] }, live := fun _ => [], ms := [62, 65, 69] }
theorem kr_38 : rdy Try.prog hn_38 Try.f38 = some (rc_38, [.t 2], 7) := by kernel_rfl
theorem enA_38 : enterA Try.prog 38 = true := by kernel_rfl
theorem en_38 {args : List AV} {K : AV → ASt → Prop} {S : ASt} (hl : args.length ≤ 7) (h : wpR Try.prog rc_38 (bodyQ [.t 2] K) (argF 0 args) S) : ACalls Try.prog 38 args S K := ACalls.of Try.func38 enA_38 kr_38 hl h

/-- (*salvor/conv.Conv).put -/
def rc_39 : RC :=
  .reg [⟨false, none, .mov (.c (.sl .nil 0 [])), some 4⟩] (.reg [⟨false, none, .mov (.t 0), some 5⟩,
  ⟨false, none, .nck (.t 5), some 6⟩,
  ⟨false, none, .fld 257 (.t 6), some 7⟩,
  ⟨false, none, .loadN 256 (.t 7), some 8⟩,
  ⟨false, none, .mov (.t 0), some 9⟩,
  ⟨false, none, .nck (.t 9), some 10⟩,
  ⟨false, none, .fld 513 (.t 10), some 11⟩,
  ⟨false, none, .load (.t 11), some 12⟩,
  ⟨false, none, .mov (.t 0), some 13⟩,
  ⟨false, none, .nck (.t 13), some 14⟩,
  ⟨false, none, .fld 1 (.t 14), some 15⟩,
  ⟨false, none, .loadN 256 (.t 15), some 16⟩,
  ⟨false, none, .mov (.t 1), some 17⟩,
  ⟨false, none, .nck (.t 12), some 19⟩,
  ⟨false, none, .mov (.t 12), some 20⟩,
  ⟨false, none, .call 19 [.t 16, .t 17], some 18⟩,
  ⟨true, none, .load (.t 11), some 12⟩,
  ⟨true, none, .fld 513 (.t 10), some 11⟩,
  ⟨true, none, .loadN 256 (.t 7), some 8⟩,
  ⟨true, none, .fld 257 (.t 6), some 7⟩,
  ⟨false, none, .inv (.t 20) [(62, 88), (65, 91), (69, 101)] [.t 18], some 21⟩,
  ⟨true, none, .loadN 256 (.t 7), some 8⟩,
  ⟨true, none, .fld 257 (.t 6), some 7⟩,
  ⟨false, none, .call 19 [.t 8, .t 21], some 22⟩,
  ⟨false, none, .mov (.t 22), some 4⟩] (.ret))
def hn_39 : Hn := { M := { own := fun _ => false, rb := fun _ => none, ord := fun r => if r = 1 then [0, 1, 2, 3, 4, 5, 6, 7, 8, 9, 10, 11, 12, 14, 15, 13, 16, 17, 18] else [] }, live := fun _ => [], ms := [62, 65, 69] }
theorem kr_39 : rdy Try.prog hn_39 Try.f39 = some (rc_39, [.t 4], 23) := by kernel_rfl
theorem enA_39 : enterA Try.prog 39 = true := by kernel_rfl
theorem en_39 {args : List AV} {K : AV → ASt → Prop} {S : ASt} (hl : args.length ≤ 23) (h : wpR Try.prog rc_39 (bodyQ [.t 4] K) (argF 0 args) S) : ACalls Try.prog 39 args S K := ACalls.of Try.func39 enA_39 kr_39 hl h

/-- (*salvor/swab.Swab).Put -/
def rc_40 : RC :=
  .reg [⟨false, none, .mov (.c (.sl .nil 0 [])), some 4⟩] (.reg [⟨false, none, .mov (.t 0), some 7⟩,
  ⟨false, none, .nck (.t 7), some 8⟩,
  ⟨false, none, .fld 0 (.t 8), some 9⟩,
  ⟨false, none, .load (.t 9), some 10⟩,
  ⟨false, none, .not (.t 10), some 11⟩] (.cond (.t 11) (.reg [⟨false, none, .mov (.t 1), some 12⟩,
  ⟨false, none, .call 55 [.t 12], some 13⟩,
  ⟨false, none, .mov (.t 13), some 4⟩] (.ret)) (.nop) (.reg [⟨false, none, .mov (.c (.sl .nil 0 [])), some 5⟩] (.reg [⟨false, none, .mov (.t 0), some 14⟩,
  ⟨false, none, .nck (.t 14), some 15⟩,
  ⟨false, none, .fld 1 (.t 15), some 16⟩,
  ⟨false, none, .load (.t 16), some 17⟩,
  ⟨false, none, .mov (.t 1), some 18⟩,
  ⟨false, none, .mkSl false 1 2 (.sl .nil 0 []) [(0, .t 17), (1, .t 18)], some 19⟩,
  ⟨false, none, .call 56 [.t 19], some 20⟩,
  ⟨false, none, .mov (.t 20), some 6⟩] (.block 0 (.loop [0, 5, 6] (.reg [⟨false, none, .mov (.t 6), some 21⟩,
  ⟨false, none, .len (.t 21), some 22⟩,
  ⟨false, none, .bin .gtr (.t 22) (.c (.int .i64 1)), some 23⟩] (.cond (.t 23) (.nop) (.exit 0) (.block 1 (.reg [⟨false, none, .mov (.t 5), some 24⟩,
  ⟨false, none, .mov (.t 6), some 25⟩,
  ⟨false, none, .idx 1 (.t 25) (.c (.int .i64 1)), some 26⟩,
  ⟨false, none, .load (.t 26), some 27⟩,
  ⟨false, none, .mov (.t 6), some 28⟩,
  ⟨false, none, .idx 1 (.t 28) (.c (.int .i64 0)), some 29⟩,
  ⟨false, none, .load (.t 29), some 30⟩,
  ⟨false, none, .mkSl false 1 2 (.int .u8 0) [(0, .t 27), (1, .t 30)], some 31⟩,
  ⟨false, none, .app 1 (.t 24) (.t 31), some 32⟩,
  ⟨false, none, .mov (.t 32), some 5⟩] (.reg [⟨false, none, .mov (.t 6), some 33⟩,
  ⟨false, none, .slice 1 (.t 33) (some (.c (.int .i64 2))) none, some 34⟩,
  ⟨false, none, .mov (.t 34), some 6⟩] (.nop))) (.nop))))) (.reg [⟨false, none, .mov (.t 0), some 35⟩,
  ⟨false, none, .mov (.t 6), some 36⟩,
  ⟨false, none, .call 55 [.t 36], some 37⟩,
  ⟨false, none, .nck (.t 35), some 38⟩,
  ⟨false, none, .fld 1 (.t 38), some 39⟩,
  ⟨false, none, .st 1 (.t 39) (.t 37), none⟩] (.reg [⟨false, none, .mov (.t 5), some 40⟩,
  ⟨false, none, .mov (.t 40), some 4⟩] (.ret))))))))
def hn_40 : Hn := { M := { own := fun _ => false, rb := fun _ => none, ord := fun r => if r = 6 then [0, 1, 2, 3, 4, 5, 6, 7, 8, 9] else [] }, live := fun r => if r = 5 then [0, 5, 6] else [], ms := [62, 65, 69] }
theorem kr_40 : rdy Try.prog hn_40 Try.f40 = some (rc_40, [.t 4], 41) := by kernel_rfl
theorem enA_40 : enterA Try.prog 40 = true := by kernel_rfl
theorem en_40 {args : List AV} {K : AV → ASt → Prop} {S : ASt} (hl : args.length ≤ 41) (h : wpR Try.prog rc_40 (bodyQ [.t 4] K) (argF 0 args) S) : ACalls Try.prog 40 args S K := ACalls.of Try.func40 enA_40 kr_40 hl h

/-- (*salvor/swab.Swab).End -/
def rc_41 : RC :=
  .reg [⟨false, none, .mov (.c (.sl .nil 0 [])), some 2⟩] (.reg [⟨false, none, .mov (.t 0), some 4⟩,
  ⟨false, none, .nck (.t 4), some 5⟩,
  ⟨false, none, .fld 1 (.t 5), some 6⟩,
  ⟨false, none, .load (.t 6), some 7⟩,
  ⟨false, none, .mov (.t 7), some 3⟩] (.reg [⟨false, none, .mov (.t 0), some 8⟩,
  ⟨false, none, .nck (.t 8), some 9⟩,
  ⟨false, none, .fld 1 (.t 9), some 10⟩,
  ⟨false, none, .st 1 (.t 10) (.c (.sl .nil 0 [])), none⟩] (.reg [⟨false, none, .mov (.t 3), some 11⟩,
  ⟨false, none, .mov (.t 11), some 2⟩] (.ret))))
def hn_41 : Hn := { M := { own := fun _ => false, rb := fun _ => none, ord := fun _ => [] }, live := fun _ => [], ms := [62, 65, 69] }
theorem kr_41 : rdy Try.prog hn_41 Try.f41 = some (rc_41, [.t 2], 12) := by kernel_rfl
theorem enA_41 : enterA Try.prog 41 = true := by kernel_rfl
theorem en_41 {args : List AV} {K : AV → ASt → Prop} {S : ASt} (hl : args.length ≤ 12) (h : wpR Try.prog rc_41 (bodyQ [.t 2] K) (argF 0 args) S) : ACalls Try.prog 41 args S K := ACalls.of Try.func41 enA_41 kr_41 hl h

/-- salvor/tab.moved -/
def rc_42 : RC :=
  .reg [⟨false, none, .alloc (List.replicate 256 (.int .u8 0)), some 4⟩] (.reg [⟨false, none, .call 45 [], some 7⟩,
  ⟨false, none, .alloc (List.replicate 256 (.int .u8 0)), some 5⟩,
  ⟨false, none, .st 256 (.t 5) (.t 7), none⟩] (.reg [⟨false, none, .mov (.c (.int .u8 0)), some 8⟩] (.block 0 (.loop [0, 1, 4, 5, 8] (.reg [⟨false, none, .bin .lss (.t 8) (.c (.int .u8 26)), some 9⟩] (.cond (.t 9) (.nop) (.exit 0) (.block 1 (.reg [⟨false, none, .mov (.t 8), some 10⟩,
  ⟨false, none, .mov (.t 10), some 6⟩] (.reg [⟨false, none, .mov (.t 0), some 11⟩,
  ⟨false, none, .mov (.t 6), some 12⟩,
  ⟨false, none, .bin .add (.t 11) (.t 12), some 13⟩,
  ⟨false, none, .mov (.t 1), some 14⟩,
  ⟨false, none, .mov (.t 6), some 15⟩,
  ⟨false, none, .bin .add (.t 14) (.t 15), some 16⟩,
  ⟨false, none, .idxA 256 1 (.t 5) (.t 13), some 17⟩,
  ⟨false, none, .st 1 (.t 17) (.t 16), none⟩] (.nop))) (.reg [⟨false, none, .bin .add (.t 8) (.c (.int .u8 1)), some 18⟩,
  ⟨false, none, .mov (.t 18), some 8⟩] (.nop)))))) (.reg [⟨false, none, .loadN 256 (.t 5), some 19⟩,
  ⟨false, none, .st 256 (.t 4) (.t 19), none⟩] (.ret)))))
def hn_42 : Hn := { M := { own := fun _ => false, rb := fun _ => none, ord := fun _ => [] }, live := fun r => if r = 3 then [0, 1, 4, 5, 8] else [], ms := [62, 65, 69] }
theorem kr_42 : rdy Try.prog hn_42 Try.f42 = some (rc_42, [.cellN 4 256], 20) := by kernel_rfl
theorem enA_42 : enterA Try.prog 42 = true := by kernel_rfl
theorem en_42 {args : List AV} {K : AV → ASt → Prop} {S : ASt} (hl : args.length ≤ 20) (h : wpR Try.prog rc_42 (bodyQ [.cellN 4 256] K) (argF 0 args) S) : ACalls Try.prog 42 args S K := ACalls.of Try.func42 enA_42 kr_42 hl h

/-- salvor/tab.table -/
def rc_43 : RC :=
  .reg [⟨false, none, .alloc (List.replicate 256 (.int .u8 0)), some 2⟩] (.reg [⟨false, none, .alloc (List.replicate 256 (.int .u8 0)), some 3⟩] (.reg [⟨false, none, .alloc (List.replicate 256 (.bool false)), some 4⟩,
  ⟨false, none, .alloc (List.replicate 256 (.bool false)), some 5⟩] (.reg [⟨false, none, .mov (.t 0), some 11⟩,
  ⟨false, none, .len (.t 11), some 12⟩,
  ⟨false, none, .mov (.c (.int .i64 0)), some 13⟩] (.block 0 (.loop [2, 3, 4, 5, 11, 12, 13] (.reg [⟨false, none, .bin .lss (.t 13) (.t 12), some 14⟩] (.cond (.t 14) (.nop) (.exit 0) (.block 1 (.reg [⟨false, none, .idx 3 (.t 11) (.t 13), some 15⟩,
  ⟨false, none, .loadN 3 (.t 15), some 16⟩,
  ⟨false, none, .alloc ([.int .i64 0, .int .i64 0, .int .i64 0]), some 7⟩,
  ⟨false, none, .st 3 (.t 7) (.t 16), none⟩] (.reg [⟨false, none, .fld 2 (.t 7), some 17⟩,
  ⟨false, none, .load (.t 17), some 18⟩,
  ⟨false, none, .mov (.c (.int .i64 0)), some 19⟩] (.block 2 (.loop [2, 3, 4, 5, 7, 11, 12, 13, 18, 19] (.reg [⟨false, none, .bin .lss (.t 19) (.t 18), some 20⟩] (.cond (.t 20) (.nop) (.exit 2) (.block 3 (.reg [⟨false, none, .mov (.t 19), some 21⟩,
  ⟨false, none, .mov (.t 21), some 8⟩] (.reg [⟨false, none, .fld 0 (.t 7), some 22⟩,
  ⟨false, none, .load (.t 22), some 23⟩,
  ⟨false, none, .mov (.t 8), some 24⟩,
  ⟨false, none, .bin .add (.t 23) (.t 24), some 25⟩,
  ⟨false, none, .fld 1 (.t 7), some 26⟩,
  ⟨false, none, .load (.t 26), some 27⟩,
  ⟨false, none, .mov (.t 8), some 28⟩,
  ⟨false, none, .bin .add (.t 27) (.t 28), some 29⟩,
  ⟨false, none, .toInt .u8 (.t 29), some 30⟩,
  ⟨false, none, .idxA 256 1 (.t 3) (.t 25), some 31⟩,
  ⟨false, none, .st 1 (.t 31) (.t 30), none⟩] (.reg [⟨false, none, .fld 0 (.t 7), some 32⟩,
  ⟨false, none, .load (.t 32), some 33⟩,
  ⟨false, none, .mov (.t 8), some 34⟩,
  ⟨false, none, .bin .add (.t 33) (.t 34), some 35⟩,
  ⟨false, none, .fld 1 (.t 7), some 36⟩,
  ⟨false, none, .load (.t 36), some 37⟩,
  ⟨false, none, .mov (.t 8), some 38⟩,
  ⟨false, none, .bin .add (.t 37) (.t 38), some 39⟩,
  ⟨false, none, .idxA 256 1 (.t 4) (.t 35), some 40⟩,
  ⟨false, none, .st 1 (.t 40) (.c (.bool true)), none⟩,
  ⟨true, none, .load (.t 36), some 37⟩,
  ⟨true, none, .fld 1 (.t 7), some 36⟩,
  ⟨false, none, .idxA 256 1 (.t 5) (.t 39), some 41⟩,
  ⟨false, none, .st 1 (.t 41) (.c (.bool true)), none⟩] (.nop)))) (.reg [⟨false, none, .bin .add (.t 19) (.c (.int .i64 1)), some 42⟩,
  ⟨false, none, .mov (.t 42), some 19⟩] (.nop)))))) (.nop)))) (.reg [⟨false, none, .bin .add (.t 13) (.c (.int .i64 1)), some 43⟩,
  ⟨false, none, .mov (.t 43), some 13⟩] (.nop)))))) (.reg [⟨false, none, .mov (.c (.int .i64 0)), some 9⟩] (.reg [⟨false, none, .mov (.c (.int .i64 0)), some 44⟩] (.block 4 (.loop [2, 3, 4, 5, 9, 44] (.reg [⟨false, none, .bin .lss (.t 44) (.c (.int .i64 256)), some 45⟩] (.cond (.t 45) (.nop) (.exit 4) (.block 5 (.reg [⟨false, none, .mov (.t 44), some 46⟩,
  ⟨false, none, .mov (.t 46), some 10⟩] (.reg [⟨false, none, .mov (.t 10), some 47⟩,
  ⟨false, none, .idxA 256 1 (.t 4) (.t 47), some 48⟩,
  ⟨false, none, .load (.t 48), some 49⟩] (.cond (.t 49) (.exit 5) (.nop) (.block 6 (.loop [2, 3, 4, 5, 9, 10, 44] (.reg [⟨false, none, .mov (.t 9), some 50⟩,
  ⟨false, none, .idxA 256 1 (.t 5) (.t 50), some 51⟩,
  ⟨false, none, .load (.t 51), some 52⟩] (.cond (.t 52) (.nop) (.exit 6) (.block 7 (.reg [⟨false, none, .mov (.t 9), some 53⟩,
  ⟨false, none, .bin .add (.t 53) (.c (.int .i64 1)), some 54⟩,
  ⟨false, none, .mov (.t 54), some 9⟩] (.nop)) (.nop))))) (.reg [⟨false, none, .mov (.t 10), some 55⟩,
  ⟨false, none, .mov (.t 9), some 56⟩,
  ⟨false, none, .toInt .u8 (.t 56), some 57⟩,
  ⟨false, none, .idxA 256 1 (.t 3) (.t 55), some 58⟩,
  ⟨false, none, .st 1 (.t 58) (.t 57), none⟩] (.reg [⟨false, none, .mov (.t 9), some 59⟩,
  ⟨false, none, .bin .add (.t 59) (.c (.int .i64 1)), some 60⟩,
  ⟨false, none, .mov (.t 60), some 9⟩] (.nop))))))) (.reg [⟨false, none, .bin .add (.t 44) (.c (.int .i64 1)), some 61⟩,
  ⟨false, none, .mov (.t 61), some 44⟩] (.nop)))))) (.reg [⟨false, none, .loadN 256 (.t 3), some 62⟩,
  ⟨false, none, .st 256 (.t 2) (.t 62), none⟩] (.ret)))))))))
def hn_43 : Hn := { M := { own := fun _ => false, rb := fun _ => none, ord := fun r => if r = 10 then [0, 1, 2, 3, 4, 5, 6, 7, 8, 9, 10, 11] else [] }, live := fun r => if r = 4 then [2, 3, 4, 5, 11, 12, 13] else if r = 7 then [2, 3, 4, 5, 7, 11, 12, 13, 18, 19] else if r = 15 then [2, 3, 4, 5, 9, 44] else if r = 18 then [2, 3, 4, 5, 9, 10, 44] else [], ms := [62, 65, 69] }
theorem kr_43 : rdy Try.prog hn_43 Try.f43 = some (rc_43, [.cellN 2 256], 63) := by kernel_rfl
theorem enA_43 : enterA Try.prog 43 = true := by kernel_rfl
theorem en_43 {args : List AV} {K : AV → ASt → Prop} {S : ASt} (hl : args.length ≤ 63) (h : wpR Try.prog rc_43 (bodyQ [.cellN 2 256] K) (argF 0 args) S) : ACalls Try.prog 43 args S K := ACalls.of Try.func43 enA_43 kr_43 hl h

/-- salvor/tab.named -/
def rc_44 : RC :=
  .reg [⟨false, none, .mov (.c (.sl .nil 0 [])), some 0⟩] (.reg [⟨false, none, .build ([.int .i64 0, .int .i64 0, .int .i64 0]) [(0, 1), (1, 1), (2, 1)] [(0, .c (.int .i64 0)), (1, .c (.int .i64 0)), (2, .c (.int .i64 1))], some 1⟩,
  ⟨false, none, .build ([.int .i64 0, .int .i64 0, .int .i64 0]) [(0, 1), (1, 1), (2, 1)] [(0, .c (.int .i64 9)), (1, .c (.int .i64 5)), (2, .c (.int .i64 1))], some 2⟩,
  ⟨false, none, .build ([.int .i64 0, .int .i64 0, .int .i64 0]) [(0, 1), (1, 1), (2, 1)] [(0, .c (.int .i64 10)), (1, .c (.int .i64 37)), (2, .c (.int .i64 1))], some 3⟩,
  ⟨false, none, .build ([.int .i64 0, .int .i64 0, .int .i64 0]) [(0, 1), (1, 1), (2, 1)] [(0, .c (.int .i64 13)), (1, .c (.int .i64 13)), (2, .c (.int .i64 1))], some 4⟩,
  ⟨false, none, .build ([.int .i64 0, .int .i64 0, .int .i64 0]) [(0, 1), (1, 1), (2, 1)] [(0, .c (.int .i64 32)), (1, .c (.int .i64 64)), (2, .c (.int .i64 1))], some 5⟩,
  ⟨false, none, .build ([.int .i64 0, .int .i64 0, .int .i64 0]) [(0, 1), (1, 1), (2, 1)] [(0, .c (.int .i64 33)), (1, .c (.int .i64 90)), (2, .c (.int .i64 1))], some 6⟩,
  ⟨false, none, .build ([.int .i64 0, .int .i64 0, .int .i64 0]) [(0, 1), (1, 1), (2, 1)] [(0, .c (.int .i64 34)), (1, .c (.int .i64 127)), (2, .c (.int .i64 1))], some 7⟩,
  ⟨false, none, .build ([.int .i64 0, .int .i64 0, .int .i64 0]) [(0, 1), (1, 1), (2, 1)] [(0, .c (.int .i64 35)), (1, .c (.int .i64 123)), (2, .c (.int .i64 1))], some 8⟩,
  ⟨false, none, .build ([.int .i64 0, .int .i64 0, .int .i64 0]) [(0, 1), (1, 1), (2, 1)] [(0, .c (.int .i64 36)), (1, .c (.int .i64 91)), (2, .c (.int .i64 1))], some 9⟩,
  ⟨false, none, .build ([.int .i64 0, .int .i64 0, .int .i64 0]) [(0, 1), (1, 1), (2, 1)] [(0, .c (.int .i64 37)), (1, .c (.int .i64 108)), (2, .c (.int .i64 1))], some 10⟩,
  ⟨false, none, .build ([.int .i64 0, .int .i64 0, .int .i64 0]) [(0, 1), (1, 1), (2, 1)] [(0, .c (.int .i64 38)), (1, .c (.int .i64 80)), (2, .c (.int .i64 1))], some 11⟩,
  ⟨false, none, .build ([.int .i64 0, .int .i64 0, .int .i64 0]) [(0, 1), (1, 1), (2, 1)] [(0, .c (.int .i64 39)), (1, .c (.int .i64 125)), (2, .c (.int .i64 1))], some 12⟩,
  ⟨false, none, .build ([.int .i64 0, .int .i64 0, .int .i64 0]) [(0, 1), (1, 1), (2, 1)] [(0, .c (.int .i64 40)), (1, .c (.int .i64 77)), (2, .c (.int .i64 1))], some 13⟩,
  ⟨false, none, .build ([.int .i64 0, .int .i64 0, .int .i64 0]) [(0, 1), (1, 1), (2, 1)] [(0, .c (.int .i64 41)), (1, .c (.int .i64 93)), (2, .c (.int .i64 1))], some 14⟩,
  ⟨false, none, .build ([.int .i64 0, .int .i64 0, .int .i64 0]) [(0, 1), (1, 1), (2, 1)] [(0, .c (.int .i64 42)), (1, .c (.int .i64 92)), (2, .c (.int .i64 1))], some 15⟩,
  ⟨false, none, .build ([.int .i64 0, .int .i64 0, .int .i64 0]) [(0, 1), (1, 1), (2, 1)] [(0, .c (.int .i64 43)), (1, .c (.int .i64 78)), (2, .c (.int .i64 1))], some 16⟩,
  ⟨false, none, .build ([.int .i64 0, .int .i64 0, .int .i64 0]) [(0, 1), (1, 1), (2, 1)] [(0, .c (.int .i64 44)), (1, .c (.int .i64 107)), (2, .c (.int .i64 1))], some 17⟩,
  ⟨false, none, .build ([.int .i64 0, .int .i64 0, .int .i64 0]) [(0, 1), (1, 1), (2, 1)] [(0, .c (.int .i64 45)), (1, .c (.int .i64 96)), (2, .c (.int .i64 1))], some 18⟩,
  ⟨false, none, .build ([.int .i64 0, .int .i64 0, .int .i64 0]) [(0, 1), (1, 1), (2, 1)] [(0, .c (.int .i64 46)), (1, .c (.int .i64 75)), (2, .c (.int .i64 1))], some 19⟩,
  ⟨false, none, .build ([.int .i64 0, .int .i64 0, .int .i64 0]) [(0, 1), (1, 1), (2, 1)] [(0, .c (.int .i64 47)), (1, .c (.int .i64 97)), (2, .c (.int .i64 1))], some 20⟩,
  ⟨false, none, .build ([.int .i64 0, .int .i64 0, .int .i64 0]) [(0, 1), (1, 1), (2, 1)] [(0, .c (.int .i64 58)), (1, .c (.int .i64 122)), (2, .c (.int .i64 1))], some 21⟩,
  ⟨false, none, .build ([.int .i64 0, .int .i64 0, .int .i64 0]) [(0, 1), (1, 1), (2, 1)] [(0, .c (.int .i64 59)), (1, .c (.int .i64 94)), (2, .c (.int .i64 1))], some 22⟩,
  ⟨false, none, .build ([.int .i64 0, .int .i64 0, .int .i64 0]) [(0, 1), (1, 1), (2, 1)] [(0, .c (.int .i64 60)), (1, .c (.int .i64 76)), (2, .c (.int .i64 1))], some 23⟩,
  ⟨false, none, .build ([.int .i64 0, .int .i64 0, .int .i64 0]) [(0, 1), (1, 1), (2, 1)] [(0, .c (.int .i64 61)), (1, .c (.int .i64 126)), (2, .c (.int .i64 1))], some 24⟩,
  ⟨false, none, .build ([.int .i64 0, .int .i64 0, .int .i64 0]) [(0, 1), (1, 1), (2, 1)] [(0, .c (.int .i64 62)), (1, .c (.int .i64 110)), (2, .c (.int .i64 1))], some 25⟩,
  ⟨false, none, .build ([.int .i64 0, .int .i64 0, .int .i64 0]) [(0, 1), (1, 1), (2, 1)] [(0, .c (.int .i64 63)), (1, .c (.int .i64 111)), (2, .c (.int .i64 1))], some 26⟩,
  ⟨false, none, .build ([.int .i64 0, .int .i64 0, .int .i64 0]) [(0, 1), (1, 1), (2, 1)] [(0, .c (.int .i64 64)), (1, .c (.int .i64 124)), (2, .c (.int .i64 1))], some 27⟩,
  ⟨false, none, .build ([.int .i64 0, .int .i64 0, .int .i64 0]) [(0, 1), (1, 1), (2, 1)] [(0, .c (.int .i64 91)), (1, .c (.int .i64 173)), (2, .c (.int .i64 1))], some 28⟩,
  ⟨false, none, .build ([.int .i64 0, .int .i64 0, .int .i64 0]) [(0, 1), (1, 1), (2, 1)] [(0, .c (.int .i64 92)), (1, .c (.int .i64 224)), (2, .c (.int .i64 1))], some 29⟩,
  ⟨false, none, .build ([.int .i64 0, .int .i64 0, .int .i64 0]) [(0, 1), (1, 1), (2, 1)] [(0, .c (.int .i64 93)), (1, .c (.int .i64 189)), (2, .c (.int .i64 1))], some 30⟩,
  ⟨false, none, .build ([.int .i64 0, .int .i64 0, .int .i64 0]) [(0, 1), (1, 1), (2, 1)] [(0, .c (.int .i64 95)), (1, .c (.int .i64 109)), (2, .c (.int .i64 1))], some 31⟩,
  ⟨false, none, .build ([.int .i64 0, .int .i64 0, .int .i64 0]) [(0, 1), (1, 1), (2, 1)] [(0, .c (.int .i64 96)), (1, .c (.int .i64 121)), (2, .c (.int .i64 1))], some 32⟩,
  ⟨false, none, .build ([.int .i64 0, .int .i64 0, .int .i64 0]) [(0, 1), (1, 1), (2, 1)] [(0, .c (.int .i64 123)), (1, .c (.int .i64 192)), (2, .c (.int .i64 1))], some 33⟩,
  ⟨false, none, .build ([.int .i64 0, .int .i64 0, .int .i64 0]) [(0, 1), (1, 1), (2, 1)] [(0, .c (.int .i64 124)), (1, .c (.int .i64 79)), (2, .c (.int .i64 1))], some 34⟩,
  ⟨false, none, .build ([.int .i64 0, .int .i64 0, .int .i64 0]) [(0, 1), (1, 1), (2, 1)] [(0, .c (.int .i64 125)), (1, .c (.int .i64 208)), (2, .c (.int .i64 1))], some 35⟩,
  ⟨false, none, .build ([.int .i64 0, .int .i64 0, .int .i64 0]) [(0, 1), (1, 1), (2, 1)] [(0, .c (.int .i64 48)), (1, .c (.int .i64 240)), (2, .c (.int .i64 10))], some 36⟩,
  ⟨false, none, .build ([.int .i64 0, .int .i64 0, .int .i64 0]) [(0, 1), (1, 1), (2, 1)] [(0, .c (.int .i64 65)), (1, .c (.int .i64 193)), (2, .c (.int .i64 9))], some 37⟩,
  ⟨false, none, .build ([.int .i64 0, .int .i64 0, .int .i64 0]) [(0, 1), (1, 1), (2, 1)] [(0, .c (.int .i64 74)), (1, .c (.int .i64 209)), (2, .c (.int .i64 9))], some 38⟩,
  ⟨false, none, .build ([.int .i64 0, .int .i64 0, .int .i64 0]) [(0, 1), (1, 1), (2, 1)] [(0, .c (.int .i64 83)), (1, .c (.int .i64 226)), (2, .c (.int .i64 8))], some 39⟩,
  ⟨false, none, .build ([.int .i64 0, .int .i64 0, .int .i64 0]) [(0, 1), (1, 1), (2, 1)] [(0, .c (.int .i64 97)), (1, .c (.int .i64 129)), (2, .c (.int .i64 9))], some 40⟩,
  ⟨false, none, .build ([.int .i64 0, .int .i64 0, .int .i64 0]) [(0, 1), (1, 1), (2, 1)] [(0, .c (.int .i64 106)), (1, .c (.int .i64 145)), (2, .c (.int .i64 9))], some 41⟩,
  ⟨false, none, .build ([.int .i64 0, .int .i64 0, .int .i64 0]) [(0, 1), (1, 1), (2, 1)] [(0, .c (.int .i64 115)), (1, .c (.int .i64 162)), (2, .c (.int .i64 8))], some 42⟩,
  ⟨false, none, .mkSl true 3 42 (.agg ([.int .i64 0, .int .i64 0, .int .i64 0])) [(0, .t 1), (1, .t 2), (2, .t 3), (3, .t 4), (4, .t 5), (5, .t 6), (6, .t 7), (7, .t 8), (8, .t 9), (9, .t 10), (10, .t 11), (11, .t 12), (12, .t 13), (13, .t 14), (14, .t 15), (15, .t 16), (16, .t 17), (17, .t 18), (18, .t 19), (19, .t 20), (20, .t 21), (21, .t 22), (22, .t 23), (23, .t 24), (24, .t 25), (25, .t 26), (26, .t 27), (27, .t 28), (28, .t 29), (29, .t 30), (30, .t 31), (31, .t 32), (32, .t 33), (33, .t 34), (34, .t 35), (35, .t 36), (36, .t 37), (37, .t 38), (38, .t 39), (39, .t 40), (40, .t 41), (41, .t 42)], some 43⟩,
  ⟨false, none, .mov (.t 43), some 0⟩] (.ret))
def hn_44 : Hn := { M := { own := fun d => d == 43, rb := fun _ => none, ord := fun _ => [] }, live := fun _ => [], ms := [62, 65, 69] }
theorem kr_44 : rdy Try.prog hn_44 Try.f44 = some (rc_44, [.t 0], 44) := by kernel_rfl
theorem enA_44 : enterA Try.prog 44 = true := by kernel_rfl
theorem en_44 {args : List AV} {K : AV → ASt → Prop} {S : ASt} (hl : args.length ≤ 44) (h : wpR Try.prog rc_44 (bodyQ [.t 0] K) (argF 0 args) S) : ACalls Try.prog 44 args S K := ACalls.of Try.func44 enA_44 kr_44 hl h

/-- salvor/tab.same -/
def rc_45 : RC :=
  .reg [⟨false, none, .alloc (List.replicate 256 (.int .u8 0)), some 0⟩] (.reg [⟨false, none, .alloc (List.replicate 256 (.int .u8 0)), some 1⟩] (.reg [⟨false, none, .mov (.c (.int .i64 0)), some 3⟩] (.block 0 (.loop [0, 1, 3] (.reg [⟨false, none, .bin .lss (.t 3) (.c (.int .i64 256)), some 4⟩] (.cond (.t 4) (.nop) (.exit 0) (.block 1 (.reg [⟨false, none, .mov (.t 3), some 5⟩,
  ⟨false, none, .mov (.t 5), some 2⟩] (.reg [⟨false, none, .mov (.t 2), some 6⟩,
  ⟨false, none, .mov (.t 2), some 7⟩,
  ⟨false, none, .toInt .u8 (.t 7), some 8⟩,
  ⟨false, none, .idxA 256 1 (.t 1) (.t 6), some 9⟩,
  ⟨false, none, .st 1 (.t 9) (.t 8), none⟩] (.nop))) (.reg [⟨false, none, .bin .add (.t 3) (.c (.int .i64 1)), some 10⟩,
  ⟨false, none, .mov (.t 10), some 3⟩] (.nop)))))) (.reg [⟨false, none, .loadN 256 (.t 1), some 11⟩,
  ⟨false, none, .st 256 (.t 0) (.t 11), none⟩] (.ret)))))
def hn_45 : Hn := { M := { own := fun _ => false, rb := fun _ => none, ord := fun _ => [] }, live := fun r => if r = 3 then [0, 1, 3] else [], ms := [62, 65, 69] }
theorem kr_45 : rdy Try.prog hn_45 Try.f45 = some (rc_45, [.cellN 0 256], 12) := by kernel_rfl
theorem enA_45 : enterA Try.prog 45 = true := by kernel_rfl
theorem en_45 {args : List AV} {K : AV → ASt → Prop} {S : ASt} (hl : args.length ≤ 12) (h : wpR Try.prog rc_45 (bodyQ [.cellN 0 256] K) (argF 0 args) S) : ACalls Try.prog 45 args S K := ACalls.of Try.func45 enA_45 kr_45 hl h

/-- (*salvor/salvorref6.Conv).last -/
def rc_46 : RC :=
  .reg [⟨false, none, .mov (.c (.sl .nil 0 [])), some 4⟩] (.reg [⟨false, none, .mov (.t 0), some 5⟩,
  ⟨false, none, .nck (.t 5), some 6⟩,
  ⟨false, none, .fld 0 (.t 6), some 7⟩,
  ⟨false, none, .fld 6 (.t 7), some 8⟩,
  ⟨false, none, .load (.t 8), some 9⟩] (.cond (.t 9) (.reg [⟨false, none, .call 58 [], some 10⟩,
  ⟨false, none, .mov (.t 1), some 11⟩,
  ⟨false, none, .call 57 [.t 10, .t 11], some 12⟩,
  ⟨false, none, .mov (.t 12), some 1⟩] (.nop)) (.nop) (.reg [⟨false, none, .mov (.t 0), some 13⟩,
  ⟨false, none, .nck (.t 13), some 14⟩,
  ⟨false, none, .fld 0 (.t 14), some 15⟩,
  ⟨false, none, .fld 7 (.t 15), some 16⟩,
  ⟨false, none, .load (.t 16), some 17⟩] (.cond (.t 17) (.reg [⟨false, none, .call 59 [], some 18⟩,
  ⟨false, none, .mov (.t 1), some 19⟩,
  ⟨false, none, .call 57 [.t 18, .t 19], some 20⟩,
  ⟨false, none, .mov (.t 20), some 1⟩] (.nop)) (.nop) (.reg [⟨false, none, .mov (.t 1), some 21⟩,
  ⟨false, none, .mov (.t 21), some 4⟩] (.ret))))))
def hn_46 : Hn := { M := { own := fun _ => false, rb := fun _ => none, ord := fun _ => [] }, live := fun _ => [], ms := [62, 65, 69] }
theorem kr_46 : rdy Try.prog hn_46 Try.f46 = some (rc_46, [.t 4], 22) := by kernel_rfl
theorem enA_46 : enterA Try.prog 46 = true := by kernel_rfl
theorem en_46 {args : List AV} {K : AV → ASt → Prop} {S : ASt} (hl : args.length ≤ 22) (h : wpR Try.prog rc_46 (bodyQ [.t 4] K) (argF 0 args) S) : ACalls Try.prog 46 args S K := ACalls.of Try.func46 enA_46 kr_46 hl h

/-- (*salvor/salvorref6.Conv).lines -/
def rc_47 : RC :=
  .reg [⟨false, none, .mov (.c (.sl .nil 0 [])), some 4⟩] (.block 0 (.reg [⟨false, none, .mov (.t 0), some 6⟩,
  ⟨false, none, .nck (.t 6), some 7⟩,
  ⟨false, none, .fld 0 (.t 7), some 8⟩,
  ⟨false, none, .loadN 9 (.t 8), some 9⟩,
  ⟨false, none, .call 34 [.t 9], some 10⟩,
  ⟨false, none, .mov (.t 10), some 5⟩] (.cond (.t 5) (.reg [⟨false, none, .mov (.t 0), some 11⟩,
  ⟨false, none, .nck (.t 11), some 12⟩,
  ⟨false, none, .fld 11 (.t 12), some 13⟩,
  ⟨false, none, .mov (.t 1), some 14⟩,
  ⟨false, none, .call 60 [.t 13, .t 14], some 15⟩,
  ⟨false, none, .mov (.t 15), some 4⟩] (.ret)) (.reg [⟨false, none, .mov (.t 0), some 17⟩,
  ⟨false, none, .nck (.t 17), some 18⟩,
  ⟨false, none, .fld 0 (.t 18), some 19⟩,
  ⟨false, none, .loadN 9 (.t 19), some 20⟩,
  ⟨false, none, .call 35 [.t 20], some 21⟩,
  ⟨false, none, .mov (.t 21), some 16⟩] (.cond (.t 16) (.reg [⟨false, none, .mov (.t 0), some 22⟩,
  ⟨false, none, .nck (.t 22), some 23⟩,
  ⟨false, none, .fld 14 (.t 23), some 24⟩,
  ⟨false, none, .mov (.t 1), some 25⟩,
  ⟨false, none, .call 61 [.t 24, .t 25], some 26⟩,
  ⟨false, none, .mov (.t 26), some 4⟩] (.ret)) (.nop) (.nop))) (.nop))) (.reg [⟨false, none, .mov (.t 1), some 27⟩,
  ⟨false, none, .mov (.t 27), some 4⟩] (.ret)))
def hn_47 : Hn := { M := { own := fun _ => false, rb := fun _ => none, ord := fun _ => [] }, live := fun _ => [], ms := [62, 65, 69] }
theorem kr_47 : rdy Try.prog hn_47 Try.f47 = some (rc_47, [.t 4], 28) := by kernel_rfl
theorem enA_47 : enterA Try.prog 47 = true := by kernel_rfl
theorem en_47 {args : List AV} {K : AV → ASt → Prop} {S : ASt} (hl : args.length ≤ 28) (h : wpR Try.prog rc_47 (bodyQ [.t 4] K) (argF 0 args) S) : ACalls Try.prog 47 args S K := ACalls.of Try.func47 enA_47 kr_47 hl h

/-- (*salvor/salvorref6.Conv).first -/
def rc_48 : RC :=
  .reg [⟨false, none, .mov (.c (.sl .nil 0 [])), some 4⟩] (.reg [⟨false, none, .mov (.t 0), some 5⟩,
  ⟨false, none, .nck (.t 5), some 6⟩,
  ⟨false, none, .fld 0 (.t 6), some 7⟩,
  ⟨false, none, .fld 5 (.t 7), some 8⟩,
  ⟨false, none, .load (.t 8), some 9⟩] (.cond (.t 9) (.reg [⟨false, none, .call 62 [], some 10⟩,
  ⟨false, none, .mov (.t 1), some 11⟩,
  ⟨false, none, .call 57 [.t 10, .t 11], some 12⟩,
  ⟨false, none, .mov (.t 12), some 1⟩] (.nop)) (.nop) (.reg [⟨false, none, .mov (.t 0), some 13⟩,
  ⟨false, none, .nck (.t 13), some 14⟩,
  ⟨false, none, .fld 0 (.t 14), some 15⟩,
  ⟨false, none, .fld 3 (.t 15), some 16⟩,
  ⟨false, none, .load (.t 16), some 17⟩] (.cond (.t 17) (.reg [⟨false, none, .call 63 [], some 18⟩,
  ⟨false, none, .mov (.t 1), some 19⟩,
  ⟨false, none, .call 57 [.t 18, .t 19], some 20⟩,
  ⟨false, none, .mov (.t 20), some 1⟩] (.nop)) (.nop) (.reg [⟨false, none, .mov (.t 0), some 21⟩,
  ⟨false, none, .nck (.t 21), some 22⟩,
  ⟨false, none, .fld 0 (.t 22), some 23⟩,
  ⟨false, none, .fld 4 (.t 23), some 24⟩,
  ⟨false, none, .load (.t 24), some 25⟩] (.cond (.t 25) (.reg [⟨false, none, .call 64 [], some 26⟩,
  ⟨false, none, .mov (.t 1), some 27⟩,
  ⟨false, none, .call 57 [.t 26, .t 27], some 28⟩,
  ⟨false, none, .mov (.t 28), some 1⟩] (.nop)) (.nop) (.reg [⟨false, none, .mov (.t 1), some 29⟩,
  ⟨false, none, .mov (.t 29), some 4⟩] (.ret))))))))
def hn_48 : Hn := { M := { own := fun _ => false, rb := fun _ => none, ord := fun _ => [] }, live := fun _ => [], ms := [62, 65, 69] }
theorem kr_48 : rdy Try.prog hn_48 Try.f48 = some (rc_48, [.t 4], 30) := by kernel_rfl
theorem enA_48 : enterA Try.prog 48 = true := by kernel_rfl
theorem en_48 {args : List AV} {K : AV → ASt → Prop} {S : ASt} (hl : args.length ≤ 30) (h : wpR Try.prog rc_48 (bodyQ [.t 4] K) (argF 0 args) S) : ACalls Try.prog 48 args S K := ACalls.of Try.func48 enA_48 kr_48 hl h

/-- (*salvor/salvorref6.Swab).Put -/
def rc_49 : RC :=
  .reg [⟨false, none, .mov (.c (.sl .nil 0 [])), some 4⟩] (.reg [⟨false, none, .mov (.t 0), some 7⟩,
  ⟨false, none, .nck (.t 7), some 8⟩,
  ⟨false, none, .fld 0 (.t 8), some 9⟩,
  ⟨false, none, .load (.t 9), some 10⟩,
  ⟨false, none, .not (.t 10), some 11⟩] (.cond (.t 11) (.reg [⟨false, none, .mov (.t 1), some 12⟩,
  ⟨false, none, .app 1 (.c (.sl .nil 0 [])) (.t 12), some 13⟩,
  ⟨false, none, .mov (.t 13), some 4⟩] (.ret)) (.nop) (.reg [⟨false, none, .mov (.t 0), some 14⟩,
  ⟨false, none, .nck (.t 14), some 15⟩,
  ⟨false, none, .fld 1 (.t 15), some 16⟩,
  ⟨false, none, .load (.t 16), some 17⟩,
  ⟨false, none, .app 1 (.c (.sl .nil 0 [])) (.t 17), some 18⟩,
  ⟨false, none, .mov (.t 1), some 19⟩,
  ⟨false, none, .app 1 (.t 18) (.t 19), some 20⟩,
  ⟨false, none, .mov (.t 20), some 5⟩] (.reg [⟨false, none, .mov (.c (.sl .nil 0 [])), some 6⟩] (.block 0 (.loop [0, 5, 6] (.reg [⟨false, none, .mov (.t 5), some 21⟩,
  ⟨false, none, .len (.t 21), some 22⟩,
  ⟨false, none, .bin .geq (.t 22) (.c (.int .i64 2)), some 23⟩] (.cond (.t 23) (.nop) (.exit 0) (.block 1 (.reg [⟨false, none, .mov (.t 6), some 24⟩,
  ⟨false, none, .mov (.t 5), some 25⟩,
  ⟨false, none, .idx 1 (.t 25) (.c (.int .i64 1)), some 26⟩,
  ⟨false, none, .load (.t 26), some 27⟩,
  ⟨false, none, .mov (.t 5), some 28⟩,
  ⟨false, none, .idx 1 (.t 28) (.c (.int .i64 0)), some 29⟩,
  ⟨false, none, .load (.t 29), some 30⟩,
  ⟨false, none, .mkSl false 1 2 (.int .u8 0) [(0, .t 27), (1, .t 30)], some 31⟩,
  ⟨false, none, .app 1 (.t 24) (.t 31), some 32⟩,
  ⟨false, none, .mov (.t 32), some 6⟩] (.reg [⟨false, none, .mov (.t 5), some 33⟩,
  ⟨false, none, .slice 1 (.t 33) (some (.c (.int .i64 2))) none, some 34⟩,
  ⟨false, none, .mov (.t 34), some 5⟩] (.nop))) (.nop))))) (.reg [⟨false, none, .mov (.t 0), some 35⟩,
  ⟨false, none, .mov (.t 5), some 36⟩,
  ⟨false, none, .app 1 (.c (.sl .nil 0 [])) (.t 36), some 37⟩,
  ⟨false, none, .nck (.t 35), some 38⟩,
  ⟨false, none, .fld 1 (.t 38), some 39⟩,
  ⟨false, none, .st 1 (.t 39) (.t 37), none⟩] (.reg [⟨false, none, .mov (.t 6), some 40⟩,
  ⟨false, none, .mov (.t 40), some 4⟩] (.ret))))))))
def hn_49 : Hn := { M := { own := fun _ => false, rb := fun _ => none, ord := fun r => if r = 6 then [0, 1, 2, 3, 4, 5, 6, 7, 8, 9] else [] }, live := fun r => if r = 5 then [0, 5, 6] else [], ms := [62, 65, 69] }
theorem kr_49 : rdy Try.prog hn_49 Try.f49 = some (rc_49, [.t 4], 41) := by kernel_rfl
theorem enA_49 : enterA Try.prog 49 = true := by kernel_rfl
theorem en_49 {args : List AV} {K : AV → ASt → Prop} {S : ASt} (hl : args.length ≤ 41) (h : wpR Try.prog rc_49 (bodyQ [.t 4] K) (argF 0 args) S) : ACalls Try.prog 49 args S K := ACalls.of Try.func49 enA_49 kr_49 hl h

/-- (*salvor/fixed.Packer).Cut -/
def rc_50 : RC :=
  .reg [⟨false, none, .mov (.c (.int .i64 0)), some 2⟩] (.reg [⟨false, none, .mov (.t 0), some 3⟩,
  ⟨false, none, .nck (.t 3), some 4⟩,
  ⟨false, none, .fld 3 (.t 4), some 5⟩,
  ⟨false, none, .load (.t 5), some 6⟩,
  ⟨false, none, .mov (.t 6), some 2⟩] (.ret))
def hn_50 : Hn := { M := { own := fun _ => false, rb := fun _ => none, ord := fun _ => [] }, live := fun _ => [], ms := [62, 65, 69] }
theorem kr_50 : rdy Try.prog hn_50 Try.f50 = some (rc_50, [.t 2], 7) := by kernel_rfl
theorem enA_50 : enterA Try.prog 50 = true := by kernel_rfl
theorem en_50 {args : List AV} {K : AV → ASt → Prop} {S : ASt} (hl : args.length ≤ 7) (h : wpR Try.prog rc_50 (bodyQ [.t 2] K) (argF 0 args) S) : ACalls Try.prog 50 args S K := ACalls.of Try.func50 enA_50 kr_50 hl h

/-- (*salvor/salvorref6.Swab).End -/
def rc_51 : RC :=
  .reg [⟨false, none, .mov (.c (.sl .nil 0 [])), some 2⟩] (.reg [⟨false, none, .mov (.t 0), some 4⟩,
  ⟨false, none, .nck (.t 4), some 5⟩,
  ⟨false, none, .fld 1 (.t 5), some 6⟩,
  ⟨false, none, .load (.t 6), some 7⟩,
  ⟨false, none, .mov (.t 7), some 3⟩] (.reg [⟨false, none, .mov (.t 0), some 8⟩,
  ⟨false, none, .nck (.t 8), some 9⟩,
  ⟨false, none, .fld 1 (.t 9), some 10⟩,
  ⟨false, none, .st 1 (.t 10) (.c (.sl .nil 0 [])), none⟩] (.reg [⟨false, none, .mov (.t 3), some 11⟩,
  ⟨false, none, .mov (.t 11), some 2⟩] (.ret))))
def hn_51 : Hn := { M := { own := fun _ => false, rb := fun _ => none, ord := fun _ => [] }, live := fun _ => [], ms := [62, 65, 69] }
theorem kr_51 : rdy Try.prog hn_51 Try.f51 = some (rc_51, [.t 2], 12) := by kernel_rfl
theorem enA_51 : enterA Try.prog 51 = true := by kernel_rfl
theorem en_51 {args : List AV} {K : AV → ASt → Prop} {S : ASt} (hl : args.length ≤ 12) (h : wpR Try.prog rc_51 (bodyQ [.t 2] K) (argF 0 args) S) : ACalls Try.prog 51 args S K := ACalls.of Try.func51 enA_51 kr_51 hl h

/-- (*salvor/salvorref6.Packer).End -/
def rc_52 : RC :=
  .reg [⟨false, none, .mov (.c (.sl .nil 0 [])), some 2⟩] (.reg [⟨false, none, .mov (.t 0), some 3⟩,
  ⟨false, none, .nck (.t 3), some 4⟩,
  ⟨false, none, .fld 2 (.t 4), some 5⟩,
  ⟨false, none, .load (.t 5), some 6⟩,
  ⟨false, none, .len (.t 6), some 7⟩,
  ⟨false, none, .bin .eql (.t 7) (.c (.int .i64 0)), some 8⟩] (.cond (.t 8) (.reg [⟨false, none, .mov (.c (.sl .nil 0 [])), some 2⟩] (.ret)) (.nop) (.reg [⟨false, none, .mov (.t 0), some 9⟩,
  ⟨false, none, .call 65 [.t 9], some 10⟩,
  ⟨false, none, .mov (.t 10), some 2⟩] (.ret))))
def hn_52 : Hn := { M := { own := fun _ => false, rb := fun _ => none, ord := fun _ => [] }, live := fun _ => [], ms := [62, 65, 69] }
theorem kr_52 : rdy Try.prog hn_52 Try.f52 = some (rc_52, [.t 2], 11) := by kernel_rfl
theorem enA_52 : enterA Try.prog 52 = true := by kernel_rfl
theorem en_52 {args : List AV} {K : AV → ASt → Prop} {S : ASt} (hl : args.length ≤ 11) (h : wpR Try.prog rc_52 (bodyQ [.t 2] K) (argF 0 args) S) : ACalls Try.prog 52 args S K := ACalls.of Try.func52 enA_52 kr_52 hl h

/-- (*salvor/salvorref6.Unpacker).End -/
def rc_53 : RC :=
  .reg [⟨false, none, .mov (.c (.sl .nil 0 [])), some 2⟩] (.reg [⟨false, none, .mov (.t 0), some 3⟩,
  ⟨false, none, .nck (.t 3), some 4⟩,
  ⟨false, none, .fld 1 (.t 4), some 5⟩,
  ⟨false, none, .load (.t 5), some 6⟩,
  ⟨false, none, .len (.t 6), some 7⟩,
  ⟨false, none, .bin .eql (.t 7) (.c (.int .i64 0)), some 8⟩] (.cond (.t 8) (.reg [⟨false, none, .mov (.c (.sl .nil 0 [])), some 2⟩] (.ret)) (.nop) (.reg [⟨false, none, .mov (.t 0), some 9⟩,
  ⟨false, none, .call 66 [.t 9], some 10⟩,
  ⟨false, none, .mov (.t 10), some 2⟩] (.ret))))
def hn_53 : Hn := { M := { own := fun _ => false, rb := fun _ => none, ord := fun _ => [] }, live := fun _ => [], ms := [62, 65, 69] }
theorem kr_53 : rdy Try.prog hn_53 Try.f53 = some (rc_53, [.t 2], 11) := by kernel_rfl
theorem enA_53 : enterA Try.prog 53 = true := by kernel_rfl
theorem en_53 {args : List AV} {K : AV → ASt → Prop} {S : ASt} (hl : args.length ≤ 11) (h : wpR Try.prog rc_53 (bodyQ [.t 2] K) (argF 0 args) S) : ACalls Try.prog 53 args S K := ACalls.of Try.func53 enA_53 kr_53 hl h

/-- salvor/fixed.rec -/
def rc_54 : RC :=
  .reg [⟨false, none, .alloc ([.int .i64 0, .sl .nil 0 [], .int .i64 0]), some 2⟩] (.reg [⟨false, none, .mov (.t 0), some 3⟩,
  ⟨false, none, .max (.t 3) (.c (.int .i64 1)), some 4⟩,
  ⟨false, none, .min (.t 4) (.c (.int .i64 4096)), some 5⟩,
  ⟨false, none, .build ([.int .i64 0, .sl .nil 0 [], .int .i64 0]) [(0, 1), (1, 1), (2, 1)] [(0, .t 5)], some 6⟩,
  ⟨false, none, .st 3 (.t 2) (.t 6), none⟩] (.ret))
def hn_54 : Hn := { M := { own := fun _ => false, rb := fun _ => none, ord := fun _ => [] }, live := fun _ => [], ms := [62, 65, 69] }
theorem kr_54 : rdy Try.prog hn_54 Try.f54 = some (rc_54, [.cellN 2 3], 7) := by kernel_rfl
theorem enA_54 : enterA Try.prog 54 = true := by kernel_rfl
theorem en_54 {args : List AV} {K : AV → ASt → Prop} {S : ASt} (hl : args.length ≤ 7) (h : wpR Try.prog rc_54 (bodyQ [.cellN 2 3] K) (argF 0 args) S) : ACalls Try.prog 54 args S K := ACalls.of Try.func54 enA_54 kr_54 hl h

/-- slices.Clone(()byte,byte) -/
def rc_55 : RC :=
  .reg [⟨false, none, .mov (.c (.sl .nil 0 [])), some 2⟩] (.reg [⟨false, none, .mov (.t 0), some 3⟩,
  ⟨false, none, .eqn false (.t 3), some 4⟩] (.cond (.t 4) (.reg [⟨false, none, .mov (.c (.sl .nil 0 [])), some 2⟩] (.ret)) (.nop) (.reg [⟨false, none, .mkSl true 1 0 (.int .u8 0) [], some 5⟩,
  ⟨false, none, .mov (.t 0), some 6⟩,
  ⟨false, none, .app 1 (.t 5) (.t 6), some 7⟩,
  ⟨false, none, .mov (.t 7), some 2⟩] (.ret))))
def hn_55 : Hn := { M := { own := fun d => d == 5, rb := fun _ => none, ord := fun _ => [] }, live := fun _ => [], ms := [62, 65, 69] }
theorem kr_55 : rdy Try.prog hn_55 Try.f55 = some (rc_55, [.t 2], 8) := by kernel_rfl
theorem enA_55 : enterA Try.prog 55 = true := by kernel_rfl
theorem en_55 {args : List AV} {K : AV → ASt → Prop} {S : ASt} (hl : args.length ≤ 8) (h : wpR Try.prog rc_55 (bodyQ [.t 2] K) (argF 0 args) S) : ACalls Try.prog 55 args S K := ACalls.of Try.func55 enA_55 kr_55 hl h

/-- slices.Concat(()byte,byte) -/
def rc_56 : RC :=
  .reg [⟨false, none, .mov (.c (.sl .nil 0 [])), some 2⟩] (.reg [⟨false, none, .mov (.c (.int .i64 0)), some 3⟩] (.reg [⟨false, none, .mov (.t 0), some 9⟩,
  ⟨false, none, .len (.t 9), some 10⟩,
  ⟨false, none, .mov (.c (.int .i64 0)), some 11⟩] (.block 0 (.loop [0, 3, 9, 10, 11] (.reg [⟨false, none, .bin .lss (.t 11) (.t 10), some 12⟩] (.cond (.t 12) (.nop) (.exit 0) (.block 1 (.reg [⟨false, none, .idx 1 (.t 9) (.t 11), some 13⟩,
  ⟨false, none, .load (.t 13), some 14⟩,
  ⟨false, none, .mov (.t 14), some 5⟩] (.reg [⟨false, none, .mov (.t 3), some 15⟩,
  ⟨false, none, .mov (.t 5), some 16⟩,
  ⟨false, none, .len (.t 16), some 17⟩,
  ⟨false, none, .bin .add (.t 15) (.t 17), some 18⟩,
  ⟨false, none, .mov (.t 18), some 3⟩] (.reg [⟨false, none, .mov (.t 3), some 19⟩,
  ⟨false, none, .bin .lss (.t 19) (.c (.int .i64 0)), some 20⟩] (.cond (.t 20) (.reg [⟨false, none, .iface 9 (.c (.str [108, 101, 110, 32, 111, 117, 116, 32, 111, 102, 32, 114, 97, 110, 103, 101])), some 21⟩,
  ⟨false, none, .no, none⟩] (.nop)) (.nop) (.nop))))) (.reg [⟨false, none, .bin .add (.t 11) (.c (.int .i64 1)), some 22⟩,
  ⟨false, none, .mov (.t 22), some 11⟩] (.nop)))))) (.reg [⟨false, none, .mov (.t 3), some 23⟩,
  ⟨false, none, .call 67 [.c (.sl .nil 0 []), .t 23], some 24⟩,
  ⟨false, none, .mov (.t 24), some 6⟩] (.reg [⟨false, none, .mov (.t 0), some 25⟩,
  ⟨false, none, .len (.t 25), some 26⟩,
  ⟨false, none, .mov (.c (.int .i64 0)), some 27⟩] (.block 2 (.loop [6, 25, 26, 27] (.reg [⟨false, none, .bin .lss (.t 27) (.t 26), some 28⟩] (.cond (.t 28) (.nop) (.exit 2) (.block 3 (.reg [⟨false, none, .idx 1 (.t 25) (.t 27), some 29⟩,
  ⟨false, none, .load (.t 29), some 30⟩,
  ⟨false, none, .mov (.t 30), some 8⟩] (.reg [⟨false, none, .mov (.t 6), some 31⟩,
  ⟨false, none, .mov (.t 8), some 32⟩,
  ⟨false, none, .app 1 (.t 31) (.t 32), some 33⟩,
  ⟨false, none, .mov (.t 33), some 6⟩] (.nop))) (.reg [⟨false, none, .bin .add (.t 27) (.c (.int .i64 1)), some 34⟩,
  ⟨false, none, .mov (.t 34), some 27⟩] (.nop)))))) (.reg [⟨false, none, .mov (.t 6), some 35⟩,
  ⟨false, none, .mov (.t 35), some 2⟩] (.ret))))))))
def hn_56 : Hn := { M := { own := fun _ => false, rb := fun _ => none, ord := fun _ => [] }, live := fun r => if r = 3 then [0, 3, 9, 10, 11] else if r = 11 then [6, 25, 26, 27] else [], ms := [62, 65, 69] }
theorem kr_56 : rdy Try.prog hn_56 Try.f56 = some (rc_56, [.t 2], 36) := by kernel_rfl
theorem enA_56 : enterA Try.prog 56 = true := by kernel_rfl
theorem en_56 {args : List AV} {K : AV → ASt → Prop} {S : ASt} (hl : args.length ≤ 36) (h : wpR Try.prog rc_56 (bodyQ [.t 2] K) (argF 0 args) S) : ACalls Try.prog 56 args S K := ACalls.of Try.func56 enA_56 kr_56 hl h

/-- salvor/salvorref1.Map -/
def rc_57 : RC :=
  .reg [⟨false, none, .box (.t 0), some 2⟩,
  ⟨false, none, .mov (.c (.sl .nil 0 [])), some 4⟩] (.reg [⟨false, none, .mov (.c (.sl .nil 0 [])), some 5⟩] (.reg [⟨false, none, .mov (.c (.int .i64 0)), some 6⟩] (.block 0 (.loop [1, 2, 5, 6] (.reg [⟨false, none, .mov (.t 6), some 7⟩,
  ⟨false, none, .mov (.t 1), some 8⟩,
  ⟨false, none, .len (.t 8), some 9⟩,
  ⟨false, none, .bin .lss (.t 7) (.t 9), some 10⟩] (.cond (.t 10) (.nop) (.exit 0) (.block 1 (.reg [⟨false, none, .mov (.t 5), some 13⟩,
  ⟨false, none, .mov (.t 1), some 14⟩,
  ⟨false, none, .mov (.t 6), some 15⟩,
  ⟨false, none, .idx 1 (.t 14) (.t 15), some 16⟩,
  ⟨false, none, .load (.t 16), some 17⟩,
  ⟨false, none, .idxA 256 1 (.t 2) (.t 17), some 18⟩,
  ⟨false, none, .load (.t 18), some 19⟩,
  ⟨false, none, .mkSl false 1 1 (.int .u8 0) [(0, .t 19)], some 20⟩,
  ⟨false, none, .app 1 (.t 13) (.t 20), some 21⟩,
  ⟨false, none, .mov (.t 21), some 5⟩] (.nop)) (.reg [⟨false, none, .mov (.t 6), some 11⟩,
  ⟨false, none, .bin .add (.t 11) (.c (.int .i64 1)), some 12⟩,
  ⟨false, none, .mov (.t 12), some 6⟩] (.nop)))))) (.reg [⟨false, none, .mov (.t 5), some 22⟩,
  ⟨false, none, .mov (.t 22), some 4⟩] (.ret)))))
def hn_57 : Hn := { M := { own := fun _ => false, rb := fun _ => none, ord := fun _ => [] }, live := fun r => if r = 3 then [1, 2, 5, 6] else [], ms := [62, 65, 69] }
theorem kr_57 : rdy Try.prog hn_57 Try.f57 = some (rc_57, [.t 4], 23) := by kernel_rfl
theorem enA_57 : enterA Try.prog 57 = true := by kernel_rfl
theorem en_57 {args : List AV} {K : AV → ASt → Prop} {S : ASt} (hl : args.length ≤ 23) (h : wpR Try.prog rc_57 (bodyQ [.t 4] K) (argF 0 args) S) : ACalls Try.prog 57 args S K := ACalls.of Try.func57 enA_57 kr_57 hl h

/-- salvor/salvorref1.Ebcdic -/
def rc_58 : RC :=
  .reg [⟨false, none, .alloc (List.replicate 256 (.int .u8 0)), some 0⟩] (.reg [⟨false, none, .call 70 [], some 1⟩,
  ⟨false, none, .call 69 [.t 1], some 2⟩,
  ⟨false, none, .call 68 [.t 2], some 3⟩,
  ⟨false, none, .st 256 (.t 0) (.t 3), none⟩] (.ret))
def hn_58 : Hn := { M := { own := fun _ => false, rb := fun _ => none, ord := fun _ => [] }, live := fun _ => [], ms := [62, 65, 69] }
theorem kr_58 : rdy Try.prog hn_58 Try.f58 = some (rc_58, [.cellN 0 256], 4) := by kernel_rfl
theorem enA_58 : enterA Try.prog 58 = true := by kernel_rfl
theorem en_58 {args : List AV} {K : AV → ASt → Prop} {S : ASt} (hl : args.length ≤ 4) (h : wpR Try.prog rc_58 (bodyQ [.cellN 0 256] K) (argF 0 args) S) : ACalls Try.prog 58 args S K := ACalls.of Try.func58 enA_58 kr_58 hl h

/-- salvor/salvorref1.Ibm -/
def rc_59 : RC :=
  .reg [⟨false, none, .alloc (List.replicate 256 (.int .u8 0)), some 0⟩] (.reg [⟨false, none, .call 70 [], some 3⟩,
  ⟨false, none, .mov (.t 3), some 1⟩] (.reg [⟨false, none, .mov (.c (.int .i64 0)), some 2⟩] (.block 0 (.loop [0, 1, 2] (.reg [⟨false, none, .mov (.t 2), some 4⟩,
  ⟨false, none, .bin .add (.t 4) (.c (.int .i64 1)), some 5⟩,
  ⟨false, none, .mov (.t 1), some 6⟩,
  ⟨false, none, .len (.t 6), some 7⟩,
  ⟨false, none, .bin .lss (.t 5) (.t 7), some 8⟩] (.cond (.t 8) (.nop) (.exit 0) (.block 1 (.reg [⟨false, none, .mov (.t 1), some 11⟩,
  ⟨false, none, .mov (.t 2), some 12⟩,
  ⟨false, none, .idx 1 (.t 11) (.t 12), some 13⟩,
  ⟨false, none, .load (.t 13), some 14⟩] (.block 2 (.reg [⟨false, none, .bin .eql (.t 14) (.c (.int .u8 94)), some 16⟩,
  ⟨false, none, .mov (.t 16), some 15⟩] (.cond (.t 15) (.reg [⟨false, none, .mov (.t 1), some 17⟩,
  ⟨false, none, .mov (.t 2), some 18⟩,
  ⟨false, none, .bin .add (.t 18) (.c (.int .i64 1)), some 19⟩,
  ⟨false, none, .idx 1 (.t 17) (.t 19), some 20⟩,
  ⟨false, none, .stE 1 (.t 20) (.c (.int .u8 95)), none⟩] (.nop)) (.reg [⟨false, none, .bin .eql (.t 14) (.c (.int .u8 126)), some 22⟩,
  ⟨false, none, .mov (.t 22), some 21⟩] (.cond (.t 21) (.reg [⟨false, none, .mov (.t 1), some 23⟩,
  ⟨false, none, .mov (.t 2), some 24⟩,
  ⟨false, none, .bin .add (.t 24) (.c (.int .i64 1)), some 25⟩,
  ⟨false, none, .idx 1 (.t 23) (.t 25), some 26⟩,
  ⟨false, none, .stE 1 (.t 26) (.c (.int .u8 161)), none⟩] (.nop)) (.nop) (.nop))) (.nop))) (.nop))) (.reg [⟨false, none, .mov (.t 2), some 9⟩,
  ⟨false, none, .bin .add (.t 9) (.c (.int .i64 2)), some 10⟩,
  ⟨false, none, .mov (.t 10), some 2⟩] (.nop)))))) (.reg [⟨false, none, .mov (.t 1), some 27⟩,
  ⟨false, none, .call 69 [.t 27], some 28⟩,
  ⟨false, none, .call 68 [.t 28], some 29⟩,
  ⟨false, none, .st 256 (.t 0) (.t 29), none⟩] (.ret)))))
def hn_59 : Hn := { M := { own := fun _ => false, rb := fun r => if r = 20 then some 1 else if r = 26 then some 1 else none, ord := fun _ => [] }, live := fun r => if r = 3 then [0, 1, 2] else [], ms := [62, 65, 69] }
theorem kr_59 : rdy Try.prog hn_59 Try.f59 = some (rc_59, [.cellN 0 256], 30) := by kernel_rfl
theorem enA_59 : enterA Try.prog 59 = true := by kernel_rfl
theorem en_59 {args : List AV} {K : AV → ASt → Prop} {S : ASt} (hl : args.length ≤ 30) (h : wpR Try.prog rc_59 (bodyQ [.cellN 0 256] K) (argF 0 args) S) : ACalls Try.prog 59 args S K := ACalls.of Try.func59 enA_59 kr_59 hl h

/-- (*salvor/salvorref6.Packer).Put -/
def rc_60 : RC :=
  .reg [⟨false, none, .mov (.c (.sl .nil 0 [])), some 4⟩] (.reg [⟨false, none, .mov (.c (.sl .nil 0 [])), some 5⟩] (.reg [⟨false, none, .mov (.c (.int .i64 0)), some 6⟩] (.block 0 (.loop [0, 1, 5, 6] (.reg [⟨false, none, .mov (.t 6), some 7⟩,
  ⟨false, none, .mov (.t 1), some 8⟩,
  ⟨false, none, .len (.t 8), some 9⟩,
  ⟨false, none, .bin .lss (.t 7) (.t 9), some 10⟩] (.cond (.t 10) (.nop) (.exit 0) (.block 1 (.reg [⟨false, none, .mov (.t 1), some 13⟩,
  ⟨false, none, .mov (.t 6), some 14⟩,
  ⟨false, none, .idx 1 (.t 13) (.t 14), some 15⟩,
  ⟨false, none, .load (.t 15), some 16⟩,
  ⟨false, none, .bin .eql (.t 16) (.c (.int .u8 10)), some 17⟩] (.cond (.t 17) (.reg [⟨false, none, .mov (.t 5), some 18⟩,
  ⟨false, none, .mov (.t 0), some 19⟩,
  ⟨false, none, .call 65 [.t 19], some 20⟩,
  ⟨false, none, .app 1 (.t 18) (.t 20), some 21⟩,
  ⟨false, none, .mov (.t 21), some 5⟩] (.nop)) (.reg [⟨false, none, .mov (.t 0), some 22⟩,
  ⟨false, none, .mov (.t 0), some 23⟩,
  ⟨false, none, .nck (.t 23), some 24⟩,
  ⟨false, none, .fld 2 (.t 24), some 25⟩,
  ⟨false, none, .load (.t 25), some 26⟩,
  ⟨false, none, .mov (.t 1), some 27⟩,
  ⟨false, none, .mov (.t 6), some 28⟩,
  ⟨false, none, .idx 1 (.t 27) (.t 28), some 29⟩,
  ⟨false, none, .load (.t 29), some 30⟩,
  ⟨false, none, .mkSl false 1 1 (.int .u8 0) [(0, .t 30)], some 31⟩,
  ⟨false, none, .app 1 (.t 26) (.t 31), some 32⟩,
  ⟨false, none, .nck (.t 22), some 33⟩,
  ⟨false, none, .fld 2 (.t 33), some 34⟩,
  ⟨false, none, .st 1 (.t 34) (.t 32), none⟩] (.nop)) (.nop))) (.reg [⟨false, none, .mov (.t 6), some 11⟩,
  ⟨false, none, .bin .add (.t 11) (.c (.int .i64 1)), some 12⟩,
  ⟨false, none, .mov (.t 12), some 6⟩] (.nop)))))) (.reg [⟨false, none, .mov (.t 5), some 35⟩,
  ⟨false, none, .mov (.t 35), some 4⟩] (.ret)))))
def hn_60 : Hn := { M := { own := fun _ => false, rb := fun _ => none, ord := fun r => if r = 7 then [0, 1, 2, 3, 4, 5, 6, 7, 8, 9, 10, 11, 12, 13] else [] }, live := fun r => if r = 3 then [0, 1, 5, 6] else [], ms := [62, 65, 69] }
theorem kr_60 : rdy Try.prog hn_60 Try.f60 = some (rc_60, [.t 4], 36) := by kernel_rfl
theorem enA_60 : enterA Try.prog 60 = true := by kernel_rfl
theorem en_60 {args : List AV} {K : AV → ASt → Prop} {S : ASt} (hl : args.length ≤ 36) (h : wpR Try.prog rc_60 (bodyQ [.t 4] K) (argF 0 args) S) : ACalls Try.prog 60 args S K := ACalls.of Try.func60 enA_60 kr_60 hl h

/-- (*salvor/salvorref6.Unpacker).Put -/
def rc_61 : RC :=
  .reg [⟨false, none, .mov (.c (.sl .nil 0 [])), some 4⟩] (.reg [⟨false, none, .mov (.c (.sl .nil 0 [])), some 5⟩] (.reg [⟨false, none, .mov (.c (.int .i64 0)), some 6⟩] (.block 0 (.loop [0, 1, 5, 6] (.reg [⟨false, none, .mov (.t 6), some 7⟩,
  ⟨false, none, .mov (.t 1), some 8⟩,
  ⟨false, none, .len (.t 8), some 9⟩,
  ⟨false, none, .bin .lss (.t 7) (.t 9), some 10⟩] (.cond (.t 10) (.nop) (.exit 0) (.block 1 (.reg [⟨false, none, .mov (.t 0), some 13⟩,
  ⟨false, none, .mov (.t 0), some 14⟩,
  ⟨false, none, .nck (.t 14), some 15⟩,
  ⟨false, none, .fld 1 (.t 15), some 16⟩,
  ⟨false, none, .load (.t 16), some 17⟩,
  ⟨false, none, .mov (.t 1), some 18⟩,
  ⟨false, none, .mov (.t 6), some 19⟩,
  ⟨false, none, .idx 1 (.t 18) (.t 19), some 20⟩,
  ⟨false, none, .load (.t 20), some 21⟩,
  ⟨false, none, .mkSl false 1 1 (.int .u8 0) [(0, .t 21)], some 22⟩,
  ⟨false, none, .app 1 (.t 17) (.t 22), some 23⟩,
  ⟨false, none, .nck (.t 13), some 24⟩,
  ⟨false, none, .fld 1 (.t 24), some 25⟩,
  ⟨false, none, .st 1 (.t 25) (.t 23), none⟩] (.reg [⟨false, none, .mov (.t 0), some 26⟩,
  ⟨false, none, .nck (.t 26), some 27⟩,
  ⟨false, none, .fld 1 (.t 27), some 28⟩,
  ⟨false, none, .load (.t 28), some 29⟩,
  ⟨false, none, .len (.t 29), some 30⟩,
  ⟨false, none, .mov (.t 0), some 31⟩,
  ⟨false, none, .nck (.t 31), some 32⟩,
  ⟨false, none, .fld 0 (.t 32), some 33⟩,
  ⟨false, none, .load (.t 33), some 34⟩,
  ⟨false, none, .bin .eql (.t 30) (.t 34), some 35⟩] (.cond (.t 35) (.reg [⟨false, none, .mov (.t 5), some 36⟩,
  ⟨false, none, .mov (.t 0), some 37⟩,
  ⟨false, none, .call 66 [.t 37], some 38⟩,
  ⟨false, none, .app 1 (.t 36) (.t 38), some 39⟩,
  ⟨false, none, .mov (.t 39), some 5⟩] (.nop)) (.nop) (.nop)))) (.reg [⟨false, none, .mov (.t 6), some 11⟩,
  ⟨false, none, .bin .add (.t 11) (.c (.int .i64 1)), some 12⟩,
  ⟨false, none, .mov (.t 12), some 6⟩] (.nop)))))) (.reg [⟨false, none, .mov (.t 5), some 40⟩,
  ⟨false, none, .mov (.t 40), some 4⟩] (.ret)))))
def hn_61 : Hn := { M := { own := fun _ => false, rb := fun _ => none, ord := fun r => if r = 5 then [0, 1, 2, 3, 4, 5, 6, 7, 8, 9, 10, 11, 12, 13] else if r = 6 then [0, 1, 2, 3, 4, 5, 6, 7, 8, 9] else [] }, live := fun r => if r = 3 then [0, 1, 5, 6] else [], ms := [62, 65, 69] }
theorem kr_61 : rdy Try.prog hn_61 Try.f61 = some (rc_61, [.t 4], 41) := by kernel_rfl
theorem enA_61 : enterA Try.prog 61 = true := by kernel_rfl
theorem en_61 {args : List AV} {K : AV → ASt → Prop} {S : ASt} (hl : args.length ≤ 41) (h : wpR Try.prog rc_61 (bodyQ [.t 4] K) (argF 0 args) S) : ACalls Try.prog 61 args S K := ACalls.of Try.func61 enA_61 kr_61 hl h

/-- salvor/salvorref1.Ascii -/
def rc_62 : RC :=
  .reg [⟨false, none, .alloc (List.replicate 256 (.int .u8 0)), some 0⟩] (.reg [⟨false, none, .call 58 [], some 4⟩,
  ⟨false, none, .alloc (List.replicate 256 (.int .u8 0)), some 1⟩,
  ⟨false, none, .st 256 (.t 1) (.t 4), none⟩] (.reg [⟨false, none, .alloc (List.replicate 256 (.int .u8 0)), some 2⟩] (.reg [⟨false, none, .mov (.c (.int .i64 0)), some 3⟩] (.block 0 (.loop [0, 1, 2, 3] (.reg [⟨false, none, .mov (.t 3), some 5⟩,
  ⟨false, none, .bin .lss (.t 5) (.c (.int .i64 256)), some 6⟩] (.cond (.t 6) (.nop) (.exit 0) (.block 1 (.reg [⟨false, none, .mov (.t 3), some 9⟩,
  ⟨false, none, .idxA 256 1 (.t 1) (.t 9), some 10⟩,
  ⟨false, none, .load (.t 10), some 11⟩,
  ⟨false, none, .mov (.t 3), some 12⟩,
  ⟨false, none, .toInt .u8 (.t 12), some 13⟩,
  ⟨false, none, .idxA 256 1 (.t 2) (.t 11), some 14⟩,
  ⟨false, none, .st 1 (.t 14) (.t 13), none⟩] (.nop)) (.reg [⟨false, none, .mov (.t 3), some 7⟩,
  ⟨false, none, .bin .add (.t 7) (.c (.int .i64 1)), some 8⟩,
  ⟨false, none, .mov (.t 8), some 3⟩] (.nop)))))) (.reg [⟨false, none, .loadN 256 (.t 2), some 15⟩,
  ⟨false, none, .st 256 (.t 0) (.t 15), none⟩] (.ret))))))
def hn_62 : Hn := { M := { own := fun _ => false, rb := fun _ => none, ord := fun _ => [] }, live := fun r => if r = 4 then [0, 1, 2, 3] else [], ms := [62, 65, 69] }
theorem kr_62 : rdy Try.prog hn_62 Try.f62 = some (rc_62, [.cellN 0 256], 16) := by kernel_rfl
theorem enA_62 : enterA Try.prog 62 = true := by kernel_rfl
theorem en_62 {args : List AV} {K : AV → ASt → Prop} {S : ASt} (hl : args.length ≤ 16) (h : wpR Try.prog rc_62 (bodyQ [.cellN 0 256] K) (argF 0 args) S) : ACalls Try.prog 62 args S K := ACalls.of Try.func62 enA_62 kr_62 hl h

/-- salvor/salvorref1.Lower -/
def rc_63 : RC :=
  .reg [⟨false, none, .alloc (List.replicate 256 (.int .u8 0)), some 0⟩] (.reg [⟨false, none, .call 71 [], some 3⟩,
  ⟨false, none, .alloc (List.replicate 256 (.int .u8 0)), some 1⟩,
  ⟨false, none, .st 256 (.t 1) (.t 3), none⟩] (.reg [⟨false, none, .mov (.c (.int .i64 0)), some 2⟩] (.block 0 (.loop [0, 1, 2] (.reg [⟨false, none, .mov (.t 2), some 4⟩,
  ⟨false, none, .bin .lss (.t 4) (.c (.int .i64 26)), some 5⟩] (.cond (.t 5) (.nop) (.exit 0) (.block 1 (.reg [⟨false, none, .mov (.t 2), some 8⟩,
  ⟨false, none, .bin .add (.c (.int .i64 65)) (.t 8), some 9⟩,
  ⟨false, none, .mov (.t 2), some 10⟩,
  ⟨false, none, .bin .add (.c (.int .i64 97)) (.t 10), some 11⟩,
  ⟨false, none, .toInt .u8 (.t 11), some 12⟩,
  ⟨false, none, .idxA 256 1 (.t 1) (.t 9), some 13⟩,
  ⟨false, none, .st 1 (.t 13) (.t 12), none⟩] (.nop)) (.reg [⟨false, none, .mov (.t 2), some 6⟩,
  ⟨false, none, .bin .add (.t 6) (.c (.int .i64 1)), some 7⟩,
  ⟨false, none, .mov (.t 7), some 2⟩] (.nop)))))) (.reg [⟨false, none, .loadN 256 (.t 1), some 14⟩,
  ⟨false, none, .st 256 (.t 0) (.t 14), none⟩] (.ret)))))
def hn_63 : Hn := { M := { own := fun _ => false, rb := fun _ => none, ord := fun _ => [] }, live := fun r => if r = 3 then [0, 1, 2] else [], ms := [62, 65, 69] }
theorem kr_63 : rdy Try.prog hn_63 Try.f63 = some (rc_63, [.cellN 0 256], 15) := by kernel_rfl
theorem enA_63 : enterA Try.prog 63 = true := by kernel_rfl
theorem en_63 {args : List AV} {K : AV → ASt → Prop} {S : ASt} (hl : args.length ≤ 15) (h : wpR Try.prog rc_63 (bodyQ [.cellN 0 256] K) (argF 0 args) S) : ACalls Try.prog 63 args S K := ACalls.of Try.func63 enA_63 kr_63 hl h

/-- salvor/salvorref1.Upper -/
def rc_64 : RC :=
  .reg [⟨false, none, .alloc (List.replicate 256 (.int .u8 0)), some 0⟩] (.reg [⟨false, none, .call 71 [], some 3⟩,
  ⟨false, none, .alloc (List.replicate 256 (.int .u8 0)), some 1⟩,
  ⟨false, none, .st 256 (.t 1) (.t 3), none⟩] (.reg [⟨false, none, .mov (.c (.int .i64 0)), some 2⟩] (.block 0 (.loop [0, 1, 2] (.reg [⟨false, none, .mov (.t 2), some 4⟩,
  ⟨false, none, .bin .lss (.t 4) (.c (.int .i64 26)), some 5⟩] (.cond (.t 5) (.nop) (.exit 0) (.block 1 (.reg [⟨false, none, .mov (.t 2), some 8⟩,
  ⟨false, none, .bin .add (.c (.int .i64 97)) (.t 8), some 9⟩,
  ⟨false, none, .mov (.t 2), some 10⟩,
  ⟨false, none, .bin .add (.c (.int .i64 65)) (.t 10), some 11⟩,
  ⟨false, none, .toInt .u8 (.t 11), some 12⟩,
  ⟨false, none, .idxA 256 1 (.t 1) (.t 9), some 13⟩,
  ⟨false, none, .st 1 (.t 13) (.t 12), none⟩] (.nop)) (.reg [⟨false, none, .mov (.t 2), some 6⟩,
  ⟨false, none, .bin .add (.t 6) (.c (.int .i64 1)), some 7⟩,
  ⟨false, none, .mov (.t 7), some 2⟩] (.nop)))))) (.reg [⟨false, none, .loadN 256 (.t 1), some 14⟩,
  ⟨false, none, .st 256 (.t 0) (.t 14), none⟩] (.ret)))))
def hn_64 : Hn := { M := { own := fun _ => false, rb := fun _ => none, ord := fun _ => [] }, live := fun r => if r = 3 then [0, 1, 2] else [], ms := [62, 65, 69] }
theorem kr_64 : rdy Try.prog hn_64 Try.f64 = some (rc_64, [.cellN 0 256], 15) := by kernel_rfl
theorem enA_64 : enterA Try.prog 64 = true := by kernel_rfl
theorem en_64 {args : List AV} {K : AV → ASt → Prop} {S : ASt} (hl : args.length ≤ 15) (h : wpR Try.prog rc_64 (bodyQ [.cellN 0 256] K) (argF 0 args) S) : ACalls Try.prog 64 args S K := ACalls.of Try.func64 enA_64 kr_64 hl h

/-- (*salvor/salvorref6.Packer).record -/
def rc_65 : RC :=
  .reg [⟨false, none, .mov (.c (.sl .nil 0 [])), some 2⟩] (.reg [⟨false, none, .mov (.t 0), some 4⟩,
  ⟨false, none, .nck (.t 4), some 5⟩,
  ⟨false, none, .fld 2 (.t 5), some 6⟩,
  ⟨false, none, .load (.t 6), some 7⟩,
  ⟨false, none, .len (.t 7), some 8⟩,
  ⟨false, none, .mov (.t 0), some 9⟩,
  ⟨false, none, .nck (.t 9), some 10⟩,
  ⟨false, none, .fld 0 (.t 10), some 11⟩,
  ⟨false, none, .load (.t 11), some 12⟩,
  ⟨false, none, .bin .gtr (.t 8) (.t 12), some 13⟩] (.cond (.t 13) (.reg [⟨false, none, .mov (.t 0), some 14⟩,
  ⟨false, none, .nck (.t 14), some 15⟩,
  ⟨false, none, .fld 1 (.t 15), some 16⟩,
  ⟨false, none, .load (.t 16), some 17⟩,
  ⟨false, none, .bin .add (.t 17) (.c (.int .i64 1)), some 18⟩,
  ⟨false, none, .nck (.t 14), some 19⟩,
  ⟨false, none, .fld 1 (.t 19), some 20⟩,
  ⟨false, none, .st 1 (.t 20) (.t 18), none⟩] (.reg [⟨false, none, .mov (.t 0), some 21⟩,
  ⟨false, none, .mov (.t 0), some 22⟩,
  ⟨false, none, .nck (.t 22), some 23⟩,
  ⟨false, none, .fld 2 (.t 23), some 24⟩,
  ⟨false, none, .load (.t 24), some 25⟩,
  ⟨false, none, .mov (.t 0), some 26⟩,
  ⟨false, none, .nck (.t 26), some 27⟩,
  ⟨false, none, .fld 0 (.t 27), some 28⟩,
  ⟨false, none, .load (.t 28), some 29⟩,
  ⟨false, none, .slice 1 (.t 25) none (some (.t 29)), some 30⟩,
  ⟨false, none, .nck (.t 21), some 31⟩,
  ⟨false, none, .fld 2 (.t 31), some 32⟩,
  ⟨false, none, .st 1 (.t 32) (.t 30), none⟩] (.nop))) (.nop) (.reg [⟨false, none, .mov (.t 0), some 33⟩,
  ⟨false, none, .nck (.t 33), some 34⟩,
  ⟨false, none, .fld 2 (.t 34), some 35⟩,
  ⟨false, none, .load (.t 35), some 36⟩,
  ⟨false, none, .app 1 (.c (.sl .nil 0 [])) (.t 36), some 37⟩,
  ⟨false, none, .mov (.t 37), some 3⟩] (.block 0 (.loop [0, 3] (.reg [⟨false, none, .mov (.t 3), some 38⟩,
  ⟨false, none, .len (.t 38), some 39⟩,
  ⟨false, none, .mov (.t 0), some 40⟩,
  ⟨false, none, .nck (.t 40), some 41⟩,
  ⟨false, none, .fld 0 (.t 41), some 42⟩,
  ⟨false, none, .load (.t 42), some 43⟩,
  ⟨false, none, .bin .lss (.t 39) (.t 43), some 44⟩] (.cond (.t 44) (.nop) (.exit 0) (.block 1 (.reg [⟨false, none, .mov (.t 3), some 45⟩,
  ⟨false, none, .mkSl false 1 1 (.int .u8 0) [(0, .c (.int .u8 32))], some 46⟩,
  ⟨false, none, .app 1 (.t 45) (.t 46), some 47⟩,
  ⟨false, none, .mov (.t 47), some 3⟩] (.nop)) (.nop))))) (.reg [⟨false, none, .mov (.t 0), some 48⟩,
  ⟨false, none, .nck (.t 48), some 49⟩,
  ⟨false, none, .fld 2 (.t 49), some 50⟩,
  ⟨false, none, .st 1 (.t 50) (.c (.sl .nil 0 [])), none⟩] (.reg [⟨false, none, .mov (.t 3), some 51⟩,
  ⟨false, none, .mov (.t 51), some 2⟩] (.ret)))))))
def hn_65 : Hn := { M := { own := fun _ => false, rb := fun _ => none, ord := fun r => if r = 1 then [0, 1, 2, 3, 4, 5, 6, 7, 8, 9] else if r = 3 then [0, 1, 2, 3, 4, 5, 6, 7, 8, 9, 10, 11, 12] else [] }, live := fun r => if r = 5 then [0, 3] else [], ms := [62, 65, 69] }
theorem kr_65 : rdy Try.prog hn_65 Try.f65 = some (rc_65, [.t 2], 52) := by kernel_rfl
theorem enA_65 : enterA Try.prog 65 = true := by kernel_rfl
theorem en_65 {args : List AV} {K : AV → ASt → Prop} {S : ASt} (hl : args.length ≤ 52) (h : wpR Try.prog rc_65 (bodyQ [.t 2] K) (argF 0 args) S) : ACalls Try.prog 65 args S K := ACalls.of Try.func65 enA_65 kr_65 hl h

/-- (*salvor/salvorref6.Unpacker).line -/
def rc_66 : RC :=
  .reg [⟨false, none, .mov (.c (.sl .nil 0 [])), some 2⟩] (.reg [⟨false, none, .mov (.t 0), some 5⟩,
  ⟨false, none, .nck (.t 5), some 6⟩,
  ⟨false, none, .fld 1 (.t 6), some 7⟩,
  ⟨false, none, .load (.t 7), some 8⟩,
  ⟨false, none, .len (.t 8), some 9⟩,
  ⟨false, none, .mov (.t 9), some 3⟩] (.block 0 (.loop [0, 3] (.reg [⟨false, none, .mov (.t 3), some 10⟩,
  ⟨false, none, .bin .gtr (.t 10) (.c (.int .i64 0)), some 11⟩,
  ⟨false, none, .mov (.t 11), some 12⟩,
  ⟨false, (some (12, true)), .mov (.t 0), some 13⟩,
  ⟨false, (some (12, true)), .nck (.t 13), some 14⟩,
  ⟨false, (some (12, true)), .fld 1 (.t 14), some 15⟩,
  ⟨false, (some (12, true)), .load (.t 15), some 16⟩,
  ⟨false, (some (12, true)), .mov (.t 3), some 17⟩,
  ⟨false, (some (12, true)), .bin .sub (.t 17) (.c (.int .i64 1)), some 18⟩,
  ⟨false, (some (12, true)), .idx 1 (.t 16) (.t 18), some 19⟩,
  ⟨false, (some (12, true)), .load (.t 19), some 20⟩,
  ⟨false, (some (12, true)), .bin .eql (.t 20) (.c (.int .u8 32)), some 21⟩,
  ⟨false, none, .pick (.t 12) (.t 21) (.c (.bool false)), some 22⟩] (.cond (.t 22) (.nop) (.exit 0) (.block 1 (.reg [⟨false, none, .mov (.t 3), some 23⟩,
  ⟨false, none, .bin .sub (.t 23) (.c (.int .i64 1)), some 24⟩,
  ⟨false, none, .mov (.t 24), some 3⟩] (.nop)) (.nop))))) (.reg [⟨false, none, .mov (.t 0), some 25⟩,
  ⟨false, none, .nck (.t 25), some 26⟩,
  ⟨false, none, .fld 1 (.t 26), some 27⟩,
  ⟨false, none, .load (.t 27), some 28⟩,
  ⟨false, none, .mov (.t 3), some 29⟩,
  ⟨false, none, .slice 1 (.t 28) none (some (.t 29)), some 30⟩,
  ⟨false, none, .app 1 (.c (.sl .nil 0 [])) (.t 30), some 31⟩,
  ⟨false, none, .mkSl false 1 1 (.int .u8 0) [(0, .c (.int .u8 10))], some 32⟩,
  ⟨false, none, .app 1 (.t 31) (.t 32), some 33⟩,
  ⟨false, none, .mov (.t 33), some 4⟩] (.reg [⟨false, none, .mov (.t 0), some 34⟩,
  ⟨false, none, .nck (.t 34), some 35⟩,
  ⟨false, none, .fld 1 (.t 35), some 36⟩,
  ⟨false, none, .st 1 (.t 36) (.c (.sl .nil 0 [])), none⟩] (.reg [⟨false, none, .mov (.t 4), some 37⟩,
  ⟨false, none, .mov (.t 37), some 2⟩] (.ret))))))
def hn_66 : Hn := { M := { own := fun _ => false, rb := fun _ => none, ord := fun _ => [] }, live := fun r => if r = 2 then [0, 3] else [], ms := [62, 65, 69] }
theorem kr_66 : rdy Try.prog hn_66 Try.f66 = some (rc_66, [.t 2], 38) := by kernel_rfl
theorem enA_66 : enterA Try.prog 66 = true := by kernel_rfl
theorem en_66 {args : List AV} {K : AV → ASt → Prop} {S : ASt} (hl : args.length ≤ 38) (h : wpR Try.prog rc_66 (bodyQ [.t 2] K) (argF 0 args) S) : ACalls Try.prog 66 args S K := ACalls.of Try.func66 enA_66 kr_66 hl h

/-- slices.Grow(()byte,byte) -/
def rc_67 : RC :=
  .reg [⟨false, none, .mov (.c (.sl .nil 0 [])), some 4⟩] (.reg [⟨false, none, .mov (.t 1), some 5⟩,
  ⟨false, none, .bin .lss (.t 5) (.c (.int .i64 0)), some 6⟩] (.cond (.t 6) (.reg [⟨false, none, .iface 9 (.c (.str [99, 97, 110, 110, 111, 116, 32, 98, 101, 32, 110, 101, 103, 97, 116, 105, 118, 101])), some 7⟩,
  ⟨false, none, .no, none⟩] (.nop)) (.nop) (.reg [⟨false, none, .mov (.t 1), some 8⟩,
  ⟨false, none, .mov (.t 0), some 9⟩,
  ⟨false, none, .cap (.t 9), some 10⟩,
  ⟨false, none, .mov (.t 0), some 11⟩,
  ⟨false, none, .len (.t 11), some 12⟩,
  ⟨false, none, .bin .sub (.t 10) (.t 12), some 13⟩,
  ⟨false, none, .bin .sub (.t 8) (.t 13), some 14⟩,
  ⟨false, none, .mov (.t 14), some 1⟩] (.reg [⟨false, none, .mov (.t 1), some 15⟩,
  ⟨false, none, .bin .gtr (.t 15) (.c (.int .i64 0)), some 16⟩] (.cond (.t 16) (.reg [⟨false, none, .mov (.t 0), some 17⟩,
  ⟨false, none, .mov (.t 0), some 18⟩,
  ⟨false, none, .cap (.t 18), some 19⟩,
  ⟨false, none, .slice 1 (.t 17) none (some (.t 19)), some 20⟩,
  ⟨false, none, .mov (.t 1), some 21⟩,
  ⟨false, none, .appN 1 (.int .u8 0) (.t 20) (.t 21), some 22⟩,
  ⟨false, none, .mov (.t 0), some 23⟩,
  ⟨false, none, .len (.t 23), some 24⟩,
  ⟨false, none, .slice 1 (.t 22) none (some (.t 24)), some 25⟩,
  ⟨false, none, .mov (.t 25), some 0⟩] (.nop)) (.nop) (.reg [⟨false, none, .mov (.t 0), some 26⟩,
  ⟨false, none, .mov (.t 26), some 4⟩] (.ret)))))))
def hn_67 : Hn := { M := { own := fun _ => false, rb := fun _ => none, ord := fun _ => [] }, live := fun _ => [], ms := [62, 65, 69] }
theorem kr_67 : rdy Try.prog hn_67 Try.f67 = some (rc_67, [.t 4], 27) := by kernel_rfl
theorem enA_67 : enterA Try.prog 67 = true := by kernel_rfl
theorem en_67 {args : List AV} {K : AV → ASt → Prop} {S : ASt} (hl : args.length ≤ 27) (h : wpR Try.prog rc_67 (bodyQ [.t 4] K) (argF 0 args) S) : ACalls Try.prog 67 args S K := ACalls.of Try.func67 enA_67 kr_67 hl h

/-- salvor/salvorref1.fill -/
def rc_68 : RC :=
  .reg [⟨false, none, .alloc (List.replicate 256 (.int .u8 0)), some 2⟩] (.reg [⟨false, none, .alloc (List.replicate 256 (.int .u8 0)), some 3⟩] (.reg [⟨false, none, .alloc (List.replicate 256 (.bool false)), some 4⟩,
  ⟨false, none, .alloc (List.replicate 256 (.bool false)), some 5⟩] (.reg [⟨false, none, .mov (.c (.int .i64 0)), some 6⟩] (.block 0 (.loop [0, 2, 3, 4, 5, 6] (.reg [⟨false, none, .mov (.t 6), some 9⟩,
  ⟨false, none, .bin .add (.t 9) (.c (.int .i64 1)), some 10⟩,
  ⟨false, none, .mov (.t 0), some 11⟩,
  ⟨false, none, .len (.t 11), some 12⟩,
  ⟨false, none, .bin .lss (.t 10) (.t 12), some 13⟩] (.cond (.t 13) (.nop) (.exit 0) (.block 1 (.reg [⟨false, none, .mov (.t 0), some 16⟩,
  ⟨false, none, .mov (.t 6), some 17⟩,
  ⟨false, none, .idx 1 (.t 16) (.t 17), some 18⟩,
  ⟨false, none, .load (.t 18), some 19⟩,
  ⟨false, none, .mov (.t 0), some 20⟩,
  ⟨false, none, .mov (.t 6), some 21⟩,
  ⟨false, none, .bin .add (.t 21) (.c (.int .i64 1)), some 22⟩,
  ⟨false, none, .idx 1 (.t 20) (.t 22), some 23⟩,
  ⟨false, none, .load (.t 23), some 24⟩,
  ⟨false, none, .idxA 256 1 (.t 3) (.t 19), some 25⟩,
  ⟨false, none, .st 1 (.t 25) (.t 24), none⟩] (.reg [⟨false, none, .mov (.t 0), some 26⟩,
  ⟨false, none, .mov (.t 6), some 27⟩,
  ⟨false, none, .idx 1 (.t 26) (.t 27), some 28⟩,
  ⟨false, none, .load (.t 28), some 29⟩,
  ⟨false, none, .mov (.t 0), some 30⟩,
  ⟨false, none, .mov (.t 6), some 31⟩,
  ⟨false, none, .bin .add (.t 31) (.c (.int .i64 1)), some 32⟩,
  ⟨false, none, .idx 1 (.t 30) (.t 32), some 33⟩,
  ⟨false, none, .load (.t 33), some 34⟩,
  ⟨false, none, .idxA 256 1 (.t 4) (.t 29), some 35⟩,
  ⟨false, none, .st 1 (.t 35) (.c (.bool true)), none⟩,
  ⟨true, none, .load (.t 33), some 34⟩,
  ⟨true, none, .idx 1 (.t 30) (.t 32), some 33⟩,
  ⟨false, none, .idxA 256 1 (.t 5) (.t 34), some 36⟩,
  ⟨false, none, .st 1 (.t 36) (.c (.bool true)), none⟩] (.nop))) (.reg [⟨false, none, .mov (.t 6), some 14⟩,
  ⟨false, none, .bin .add (.t 14) (.c (.int .i64 2)), some 15⟩,
  ⟨false, none, .mov (.t 15), some 6⟩] (.nop)))))) (.reg [⟨false, none, .mov (.c (.int .i64 0)), some 7⟩] (.reg [⟨false, none, .mov (.c (.int .i64 0)), some 8⟩] (.block 2 (.loop [2, 3, 4, 5, 7, 8] (.reg [⟨false, none, .mov (.t 8), some 37⟩,
  ⟨false, none, .bin .lss (.t 37) (.c (.int .i64 256)), some 38⟩] (.cond (.t 38) (.nop) (.exit 2) (.block 3 (.reg [⟨false, none, .mov (.t 8), some 41⟩,
  ⟨false, none, .idxA 256 1 (.t 4) (.t 41), some 42⟩,
  ⟨false, none, .load (.t 42), some 43⟩] (.cond (.t 43) (.exit 3) (.nop) (.block 4 (.loop [2, 3, 4, 5, 7, 8] (.reg [⟨false, none, .mov (.t 7), some 44⟩,
  ⟨false, none, .idxA 256 1 (.t 5) (.t 44), some 45⟩,
  ⟨false, none, .load (.t 45), some 46⟩] (.cond (.t 46) (.nop) (.exit 4) (.block 5 (.reg [⟨false, none, .mov (.t 7), some 47⟩,
  ⟨false, none, .bin .add (.t 47) (.c (.int .i64 1)), some 48⟩,
  ⟨false, none, .mov (.t 48), some 7⟩] (.nop)) (.nop))))) (.reg [⟨false, none, .mov (.t 8), some 49⟩,
  ⟨false, none, .mov (.t 7), some 50⟩,
  ⟨false, none, .toInt .u8 (.t 50), some 51⟩,
  ⟨false, none, .idxA 256 1 (.t 3) (.t 49), some 52⟩,
  ⟨false, none, .st 1 (.t 52) (.t 51), none⟩] (.reg [⟨false, none, .mov (.t 7), some 53⟩,
  ⟨false, none, .idxA 256 1 (.t 5) (.t 53), some 54⟩,
  ⟨false, none, .st 1 (.t 54) (.c (.bool true)), none⟩] (.nop)))))) (.reg [⟨false, none, .mov (.t 8), some 39⟩,
  ⟨false, none, .bin .add (.t 39) (.c (.int .i64 1)), some 40⟩,
  ⟨false, none, .mov (.t 40), some 8⟩] (.nop)))))) (.reg [⟨false, none, .loadN 256 (.t 3), some 55⟩,
  ⟨false, none, .st 256 (.t 2) (.t 55), none⟩] (.ret)))))))))
def hn_68 : Hn := { M := { own := fun _ => false, rb := fun _ => none, ord := fun r => if r = 6 then [0, 1, 2, 3, 4, 5, 6, 7, 8, 9, 10] else if r = 7 then [0, 1, 2, 3, 4, 5, 6, 7, 8, 9, 10, 11, 12] else [] }, live := fun r => if r = 4 then [0, 2, 3, 4, 5, 6] else if r = 10 then [2, 3, 4, 5, 7, 8] else if r = 13 then [2, 3, 4, 5, 7, 8] else [], ms := [62, 65, 69] }
theorem kr_68 : rdy Try.prog hn_68 Try.f68 = some (rc_68, [.cellN 2 256], 56) := by kernel_rfl
theorem enA_68 : enterA Try.prog 68 = true := by kernel_rfl
theorem en_68 {args : List AV} {K : AV → ASt → Prop} {S : ASt} (hl : args.length ≤ 56) (h : wpR Try.prog rc_68 (bodyQ [.cellN 2 256] K) (argF 0 args) S) : ACalls Try.prog 68 args S K := ACalls.of Try.func68 enA_68 kr_68 hl h

/-- salvor/salvorref1.rows -/
def rc_69 : RC :=
  .reg [⟨false, none, .mov (.c (.sl .nil 0 [])), some 2⟩] (.reg [⟨false, none, .mov (.c (.int .i64 0)), some 3⟩] (.block 0 (.loop [0, 3] (.reg [⟨false, none, .mov (.t 3), some 6⟩,
  ⟨false, none, .bin .lss (.t 6) (.c (.int .i64 10)), some 7⟩] (.cond (.t 7) (.nop) (.exit 0) (.block 1 (.reg [⟨false, none, .mov (.t 0), some 10⟩,
  ⟨false, none, .mov (.t 3), some 11⟩,
  ⟨false, none, .bin .add (.c (.int .i64 48)) (.t 11), some 12⟩,
  ⟨false, none, .toInt .u8 (.t 12), some 13⟩,
  ⟨false, none, .mov (.t 3), some 14⟩,
  ⟨false, none, .bin .add (.c (.int .i64 240)) (.t 14), some 15⟩,
  ⟨false, none, .toInt .u8 (.t 15), some 16⟩,
  ⟨false, none, .mkSl false 1 2 (.int .u8 0) [(0, .t 13), (1, .t 16)], some 17⟩,
  ⟨false, none, .app 1 (.t 10) (.t 17), some 18⟩,
  ⟨false, none, .mov (.t 18), some 0⟩] (.nop)) (.reg [⟨false, none, .mov (.t 3), some 8⟩,
  ⟨false, none, .bin .add (.t 8) (.c (.int .i64 1)), some 9⟩,
  ⟨false, none, .mov (.t 9), some 3⟩] (.nop)))))) (.reg [⟨false, none, .mov (.c (.int .i64 0)), some 4⟩] (.block 2 (.loop [0, 4] (.reg [⟨false, none, .mov (.t 4), some 19⟩,
  ⟨false, none, .bin .lss (.t 19) (.c (.int .i64 9)), some 20⟩] (.cond (.t 20) (.nop) (.exit 2) (.block 3 (.reg [⟨false, none, .mov (.t 0), some 23⟩,
  ⟨false, none, .mov (.t 4), some 24⟩,
  ⟨false, none, .bin .add (.c (.int .i64 65)) (.t 24), some 25⟩,
  ⟨false, none, .toInt .u8 (.t 25), some 26⟩,
  ⟨false, none, .mov (.t 4), some 27⟩,
  ⟨false, none, .bin .add (.c (.int .i64 193)) (.t 27), some 28⟩,
  ⟨false, none, .toInt .u8 (.t 28), some 29⟩,
  ⟨false, none, .mov (.t 4), some 30⟩,
  ⟨false, none, .bin .add (.c (.int .i64 74)) (.t 30), some 31⟩,
  ⟨false, none, .toInt .u8 (.t 31), some 32⟩,
  ⟨false, none, .mov (.t 4), some 33⟩,
  ⟨false, none, .bin .add (.c (.int .i64 209)) (.t 33), some 34⟩,
  ⟨false, none, .toInt .u8 (.t 34), some 35⟩,
  ⟨false, none, .mov (.t 4), some 36⟩,
  ⟨false, none, .bin .add (.c (.int .i64 97)) (.t 36), some 37⟩,
  ⟨false, none, .toInt .u8 (.t 37), some 38⟩,
  ⟨false, none, .mov (.t 4), some 39⟩,
  ⟨false, none, .bin .add (.c (.int .i64 129)) (.t 39), some 40⟩,
  ⟨false, none, .toInt .u8 (.t 40), some 41⟩,
  ⟨false, none, .mov (.t 4), some 42⟩,
  ⟨false, none, .bin .add (.c (.int .i64 106)) (.t 42), some 43⟩,
  ⟨false, none, .toInt .u8 (.t 43), some 44⟩,
  ⟨false, none, .mov (.t 4), some 45⟩,
  ⟨false, none, .bin .add (.c (.int .i64 145)) (.t 45), some 46⟩,
  ⟨false, none, .toInt .u8 (.t 46), some 47⟩,
  ⟨false, none, .mkSl false 1 8 (.int .u8 0) [(0, .t 26), (1, .t 29), (2, .t 32), (3, .t 35), (4, .t 38), (5, .t 41), (6, .t 44), (7, .t 47)], some 48⟩,
  ⟨false, none, .app 1 (.t 23) (.t 48), some 49⟩,
  ⟨false, none, .mov (.t 49), some 0⟩] (.nop)) (.reg [⟨false, none, .mov (.t 4), some 21⟩,
  ⟨false, none, .bin .add (.t 21) (.c (.int .i64 1)), some 22⟩,
  ⟨false, none, .mov (.t 22), some 4⟩] (.nop)))))) (.reg [⟨false, none, .mov (.c (.int .i64 0)), some 5⟩] (.block 4 (.loop [0, 5] (.reg [⟨false, none, .mov (.t 5), some 50⟩,
  ⟨false, none, .bin .lss (.t 50) (.c (.int .i64 8)), some 51⟩] (.cond (.t 51) (.nop) (.exit 4) (.block 5 (.reg [⟨false, none, .mov (.t 0), some 54⟩,
  ⟨false, none, .mov (.t 5), some 55⟩,
  ⟨false, none, .bin .add (.c (.int .i64 83)) (.t 55), some 56⟩,
  ⟨false, none, .toInt .u8 (.t 56), some 57⟩,
  ⟨false, none, .mov (.t 5), some 58⟩,
  ⟨false, none, .bin .add (.c (.int .i64 226)) (.t 58), some 59⟩,
  ⟨false, none, .toInt .u8 (.t 59), some 60⟩,
  ⟨false, none, .mov (.t 5), some 61⟩,
  ⟨false, none, .bin .add (.c (.int .i64 115)) (.t 61), some 62⟩,
  ⟨false, none, .toInt .u8 (.t 62), some 63⟩,
  ⟨false, none, .mov (.t 5), some 64⟩,
  ⟨false, none, .bin .add (.c (.int .i64 162)) (.t 64), some 65⟩,
  ⟨false, none, .toInt .u8 (.t 65), some 66⟩,
  ⟨false, none, .mkSl false 1 4 (.int .u8 0) [(0, .t 57), (1, .t 60), (2, .t 63), (3, .t 66)], some 67⟩,
  ⟨false, none, .app 1 (.t 54) (.t 67), some 68⟩,
  ⟨false, none, .mov (.t 68), some 0⟩] (.nop)) (.reg [⟨false, none, .mov (.t 5), some 52⟩,
  ⟨false, none, .bin .add (.t 52) (.c (.int .i64 1)), some 53⟩,
  ⟨false, none, .mov (.t 53), some 5⟩] (.nop)))))) (.reg [⟨false, none, .mov (.t 0), some 69⟩,
  ⟨false, none, .mov (.t 69), some 2⟩] (.ret))))))))
def hn_69 : Hn := { M := { own := fun _ => false, rb := fun _ => none, ord := fun _ => [] }, live := fun r => if r = 2 then [0, 3] else if r = 6 then [0, 4] else if r = 10 then [0, 5] else [], ms := [62, 65, 69] }
theorem kr_69 : rdy Try.prog hn_69 Try.f69 = some (rc_69, [.t 2], 70) := by kernel_rfl
theorem enA_69 : enterA Try.prog 69 = true := by kernel_rfl
theorem en_69 {args : List AV} {K : AV → ASt → Prop} {S : ASt} (hl : args.length ≤ 70) (h : wpR Try.prog rc_69 (bodyQ [.t 2] K) (argF 0 args) S) : ACalls Try.prog 69 args S K := ACalls.of Try.func69 enA_69 kr_69 hl h

/-- salvor/salvorref1.named -/
def rc_70 : RC :=
  .reg [⟨false, none, .mov (.c (.sl .nil 0 [])), some 0⟩] (.reg [⟨false, none, .mkSl true 1 74 (.int .u8 0) [(0, .c (.int .u8 0)), (1, .c (.int .u8 0)), (2, .c (.int .u8 9)), (3, .c (.int .u8 5)), (4, .c (.int .u8 10)), (5, .c (.int .u8 37)), (6, .c (.int .u8 13)), (7, .c (.int .u8 13)), (8, .c (.int .u8 32)), (9, .c (.int .u8 64)), (10, .c (.int .u8 33)), (11, .c (.int .u8 90)), (12, .c (.int .u8 34)), (13, .c (.int .u8 127)), (14, .c (.int .u8 35)), (15, .c (.int .u8 123)), (16, .c (.int .u8 36)), (17, .c (.int .u8 91)), (18, .c (.int .u8 37)), (19, .c (.int .u8 108)), (20, .c (.int .u8 38)), (21, .c (.int .u8 80)), (22, .c (.int .u8 39)), (23, .c (.int .u8 125)), (24, .c (.int .u8 40)), (25, .c (.int .u8 77)), (26, .c (.int .u8 41)), (27, .c (.int .u8 93)), (28, .c (.int .u8 42)), (29, .c (.int .u8 92)), (30, .c (.int .u8 43)), (31, .c (.int .u8 78)), (32, .c (.int .u8 44)), (33, .c (.int .u8 107)), (34, .c (.int .u8 45)), (35, .c (.int .u8 96)), (36, .c (.int .u8 46)), (37, .c (.int .u8 75)), (38, .c (.int .u8 47)), (39, .c (.int .u8 97)), (40, .c (.int .u8 58)), (41, .c (.int .u8 122)), (42, .c (.int .u8 59)), (43, .c (.int .u8 94)), (44, .c (.int .u8 60)), (45, .c (.int .u8 76)), (46, .c (.int .u8 61)), (47, .c (.int .u8 126)), (48, .c (.int .u8 62)), (49, .c (.int .u8 110)), (50, .c (.int .u8 63)), (51, .c (.int .u8 111)), (52, .c (.int .u8 64)), (53, .c (.int .u8 124)), (54, .c (.int .u8 91)), (55, .c (.int .u8 173)), (56, .c (.int .u8 92)), (57, .c (.int .u8 224)), (58, .c (.int .u8 93)), (59, .c (.int .u8 189)), (60, .c (.int .u8 94)), (61, .c (.int .u8 154)), (62, .c (.int .u8 95)), (63, .c (.int .u8 109)), (64, .c (.int .u8 96)), (65, .c (.int .u8 121)), (66, .c (.int .u8 123)), (67, .c (.int .u8 192)), (68, .c (.int .u8 124)), (69, .c (.int .u8 79)), (70, .c (.int .u8 125)), (71, .c (.int .u8 208)), (72, .c (.int .u8 126)), (73, .c (.int .u8 95))], some 1⟩,
  ⟨false, none, .mov (.t 1), some 0⟩] (.ret))
def hn_70 : Hn := { M := { own := fun d => d == 1, rb := fun _ => none, ord := fun _ => [] }, live := fun _ => [], ms := [62, 65, 69] }
theorem kr_70 : rdy Try.prog hn_70 Try.f70 = some (rc_70, [.t 0], 2) := by kernel_rfl
theorem enA_70 : enterA Try.prog 70 = true := by kernel_rfl
theorem en_70 {args : List AV} {K : AV → ASt → Prop} {S : ASt} (hl : args.length ≤ 2) (h : wpR Try.prog rc_70 (bodyQ [.t 0] K) (argF 0 args) S) : ACalls Try.prog 70 args S K := ACalls.of Try.func70 enA_70 kr_70 hl h

/-- salvor/salvorref1.Id -/
def rc_71 : RC :=
  .reg [⟨false, none, .alloc (List.replicate 256 (.int .u8 0)), some 0⟩] (.reg [⟨false, none, .alloc (List.replicate 256 (.int .u8 0)), some 1⟩] (.reg [⟨false, none, .mov (.c (.int .i64 0)), some 2⟩] (.block 0 (.loop [0, 1, 2] (.reg [⟨false, none, .mov (.t 2), some 3⟩,
  ⟨false, none, .bin .lss (.t 3) (.c (.int .i64 256)), some 4⟩] (.cond (.t 4) (.nop) (.exit 0) (.block 1 (.reg [⟨false, none, .mov (.t 2), some 7⟩,
  ⟨false, none, .mov (.t 2), some 8⟩,
  ⟨false, none, .toInt .u8 (.t 8), some 9⟩,
  ⟨false, none, .idxA 256 1 (.t 1) (.t 7), some 10⟩,
  ⟨false, none, .st 1 (.t 10) (.t 9), none⟩] (.nop)) (.reg [⟨false, none, .mov (.t 2), some 5⟩,
  ⟨false, none, .bin .add (.t 5) (.c (.int .i64 1)), some 6⟩,
  ⟨false, none, .mov (.t 6), some 2⟩] (.nop)))))) (.reg [⟨false, none, .loadN 256 (.t 1), some 11⟩,
  ⟨false, none, .st 256 (.t 0) (.t 11), none⟩] (.ret)))))
def hn_71 : Hn := { M := { own := fun _ => false, rb := fun _ => none, ord := fun _ => [] }, live := fun r => if r = 3 then [0, 1, 2] else [], ms := [62, 65, 69] }
theorem kr_71 : rdy Try.prog hn_71 Try.f71 = some (rc_71, [.cellN 0 256], 12) := by kernel_rfl
theorem enA_71 : enterA Try.prog 71 = true := by kernel_rfl
theorem en_71 {args : List AV} {K : AV → ASt → Prop} {S : ASt} (hl : args.length ≤ 12) (h : wpR Try.prog rc_71 (bodyQ [.cellN 0 256] K) (argF 0 args) S) : ACalls Try.prog 71 args S K := ACalls.of Try.func71 enA_71 kr_71 hl h

/-- (salvor/conv.through).End -/
def rc_87 : RC :=
  .reg [⟨false, none, .box (.t 0), some 1⟩,
  ⟨false, none, .mov (.c (.sl .nil 0 [])), some 2⟩] (.reg [⟨false, none, .mov (.c (.sl .nil 0 [])), some 2⟩] (.ret))
def hn_87 : Hn := { M := { own := fun _ => false, rb := fun _ => none, ord := fun _ => [] }, live := fun _ => [], ms := [62, 65, 69] }
theorem kr_87 : rdy Try.prog hn_87 Try.f87 = some (rc_87, [.t 2], 3) := by kernel_rfl
theorem enA_87 : enterA Try.prog 87 = true := by kernel_rfl
theorem en_87 {args : List AV} {K : AV → ASt → Prop} {S : ASt} (hl : args.length ≤ 3) (h : wpR Try.prog rc_87 (bodyQ [.t 2] K) (argF 0 args) S) : ACalls Try.prog 87 args S K := ACalls.of Try.func87 enA_87 kr_87 hl h

/-- (salvor/conv.through).Put -/
def rc_88 : RC :=
  .reg [⟨false, none, .box (.t 0), some 2⟩,
  ⟨false, none, .mov (.c (.sl .nil 0 [])), some 4⟩] (.reg [⟨false, none, .mov (.t 1), some 5⟩,
  ⟨false, none, .call 55 [.t 5], some 6⟩,
  ⟨false, none, .mov (.t 6), some 4⟩] (.ret))
def hn_88 : Hn := { M := { own := fun _ => false, rb := fun _ => none, ord := fun _ => [] }, live := fun _ => [], ms := [62, 65, 69] }
theorem kr_88 : rdy Try.prog hn_88 Try.f88 = some (rc_88, [.t 4], 7) := by kernel_rfl
theorem enA_88 : enterA Try.prog 88 = true := by kernel_rfl
theorem en_88 {args : List AV} {K : AV → ASt → Prop} {S : ASt} (hl : args.length ≤ 7) (h : wpR Try.prog rc_88 (bodyQ [.t 4] K) (argF 0 args) S) : ACalls Try.prog 88 args S K := ACalls.of Try.func88 enA_88 kr_88 hl h

/-- (*salvor/fixed.Packer).End -/
def rc_90 : RC :=
  .reg [⟨false, none, .mov (.c (.sl .nil 0 [])), some 2⟩] (.reg [⟨false, none, .mov (.t 0), some 3⟩,
  ⟨false, none, .nck (.t 3), some 4⟩,
  ⟨false, none, .fld 0 (.t 4), some 5⟩,
  ⟨false, none, .fld 2 (.t 5), some 6⟩,
  ⟨false, none, .load (.t 6), some 7⟩,
  ⟨false, none, .bin .eql (.t 7) (.c (.int .i64 0)), some 8⟩] (.cond (.t 8) (.reg [⟨false, none, .mov (.c (.sl .nil 0 [])), some 2⟩] (.ret)) (.nop) (.reg [⟨false, none, .mov (.t 0), some 9⟩,
  ⟨false, none, .call 92 [.t 9], some 10⟩,
  ⟨false, none, .mov (.t 10), some 2⟩] (.ret))))
def hn_90 : Hn := { M := { own := fun _ => false, rb := fun _ => none, ord := fun _ => [] }, live := fun _ => [], ms := [62, 65, 69] }
theorem kr_90 : rdy Try.prog hn_90 Try.f90 = some (rc_90, [.t 2], 11) := by kernel_rfl
theorem enA_90 : enterA Try.prog 90 = true := by kernel_rfl
theorem en_90 {args : List AV} {K : AV → ASt → Prop} {S : ASt} (hl : args.length ≤ 11) (h : wpR Try.prog rc_90 (bodyQ [.t 2] K) (argF 0 args) S) : ACalls Try.prog 90 args S K := ACalls.of Try.func90 enA_90 kr_90 hl h

/-- (*salvor/fixed.Packer).Put -/
def rc_91 : RC :=
  .reg [⟨false, none, .mov (.c (.sl .nil 0 [])), some 4⟩] (.reg [⟨false, none, .mov (.c (.sl .nil 0 [])), some 5⟩] (.reg [⟨false, none, .mov (.t 1), some 8⟩,
  ⟨false, none, .len (.t 8), some 9⟩,
  ⟨false, none, .mov (.c (.int .i64 0)), some 10⟩] (.block 0 (.loop [0, 5, 8, 9, 10] (.reg [⟨false, none, .bin .lss (.t 10) (.t 9), some 11⟩] (.cond (.t 11) (.nop) (.exit 0) (.block 1 (.reg [⟨false, none, .idx 1 (.t 8) (.t 10), some 12⟩,
  ⟨false, none, .load (.t 12), some 13⟩,
  ⟨false, none, .mov (.t 13), some 7⟩] (.reg [⟨false, none, .mov (.t 7), some 14⟩,
  ⟨false, none, .bin .eql (.t 14) (.c (.int .u8 10)), some 15⟩] (.cond (.t 15) (.reg [⟨false, none, .mov (.t 5), some 16⟩,
  ⟨false, none, .mov (.t 0), some 17⟩,
  ⟨false, none, .call 92 [.t 17], some 18⟩,
  ⟨false, none, .app 1 (.t 16) (.t 18), some 19⟩,
  ⟨false, none, .mov (.t 19), some 5⟩] (.nop)) (.reg [⟨false, none, .mov (.t 0), some 20⟩,
  ⟨false, none, .nck (.t 20), some 21⟩,
  ⟨false, none, .fld 0 (.t 21), some 22⟩,
  ⟨false, none, .mov (.t 7), some 23⟩,
  ⟨false, none, .call 93 [.t 22, .t 23], some 24⟩] (.nop)) (.nop)))) (.reg [⟨false, none, .bin .add (.t 10) (.c (.int .i64 1)), some 25⟩,
  ⟨false, none, .mov (.t 25), some 10⟩] (.nop)))))) (.reg [⟨false, none, .mov (.t 5), some 26⟩,
  ⟨false, none, .mov (.t 26), some 4⟩] (.ret)))))
def hn_91 : Hn := { M := { own := fun _ => false, rb := fun _ => none, ord := fun _ => [] }, live := fun r => if r = 3 then [0, 5, 8, 9, 10] else [], ms := [62, 65, 69] }
theorem kr_91 : rdy Try.prog hn_91 Try.f91 = some (rc_91, [.t 4], 27) := by kernel_rfl
theorem enA_91 : enterA Try.prog 91 = true := by kernel_rfl
theorem en_91 {args : List AV} {K : AV → ASt → Prop} {S : ASt} (hl : args.length ≤ 27) (h : wpR Try.prog rc_91 (bodyQ [.t 4] K) (argF 0 args) S) : ACalls Try.prog 91 args S K := ACalls.of Try.func91 enA_91 kr_91 hl h

/-- (*salvor/fixed.Packer).record -/
def rc_92 : RC :=
  .reg [⟨false, none, .mov (.c (.sl .nil 0 [])), some 2⟩] (.reg [⟨false, none, .mov (.t 0), some 4⟩,
  ⟨false, none, .nck (.t 4), some 5⟩,
  ⟨false, none, .fld 0 (.t 5), some 6⟩,
  ⟨false, none, .fld 2 (.t 6), some 7⟩,
  ⟨false, none, .load (.t 7), some 8⟩,
  ⟨false, none, .mov (.t 0), some 9⟩,
  ⟨false, none, .nck (.t 9), some 10⟩,
  ⟨false, none, .fld 0 (.t 10), some 11⟩,
  ⟨false, none, .fld 0 (.t 11), some 12⟩,
  ⟨false, none, .load (.t 12), some 13⟩,
  ⟨false, none, .bin .gtr (.t 8) (.t 13), some 14⟩] (.cond (.t 14) (.reg [⟨false, none, .mov (.t 0), some 15⟩,
  ⟨false, none, .nck (.t 15), some 16⟩,
  ⟨false, none, .fld 3 (.t 16), some 17⟩,
  ⟨false, none, .load (.t 17), some 18⟩,
  ⟨false, none, .bin .add (.t 18) (.c (.int .i64 1)), some 19⟩,
  ⟨false, none, .nck (.t 15), some 20⟩,
  ⟨false, none, .fld 3 (.t 20), some 21⟩,
  ⟨false, none, .st 1 (.t 21) (.t 19), none⟩] (.nop)) (.nop) (.reg [⟨false, none, .mov (.t 0), some 22⟩,
  ⟨false, none, .nck (.t 22), some 23⟩,
  ⟨false, none, .fld 0 (.t 23), some 24⟩,
  ⟨false, none, .call 94 [.t 24], some 25⟩,
  ⟨false, none, .mov (.t 25), some 3⟩] (.reg [⟨false, none, .mov (.t 3), some 26⟩,
  ⟨false, none, .mkSl false 1 1 (.int .u8 0) [(0, .c (.int .u8 32))], some 27⟩,
  ⟨false, none, .mov (.t 0), some 28⟩,
  ⟨false, none, .nck (.t 28), some 29⟩,
  ⟨false, none, .fld 0 (.t 29), some 30⟩,
  ⟨false, none, .fld 0 (.t 30), some 31⟩,
  ⟨false, none, .load (.t 31), some 32⟩,
  ⟨false, none, .mov (.t 3), some 33⟩,
  ⟨false, none, .len (.t 33), some 34⟩,
  ⟨false, none, .bin .sub (.t 32) (.t 34), some 35⟩,
  ⟨false, none, .call 95 [.t 27, .t 35], some 36⟩,
  ⟨false, none, .mkSl false 1 2 (.sl .nil 0 []) [(0, .t 26), (1, .t 36)], some 37⟩,
  ⟨false, none, .call 56 [.t 37], some 38⟩,
  ⟨false, none, .mov (.t 38), some 2⟩] (.ret)))))
def hn_92 : Hn := { M := { own := fun _ => false, rb := fun _ => none, ord := fun r => if r = 1 then [0, 1, 2, 3, 4, 5, 6, 7, 8, 9, 10] else [] }, live := fun _ => [], ms := [62, 65, 69] }
theorem kr_92 : rdy Try.prog hn_92 Try.f92 = some (rc_92, [.t 2], 39) := by kernel_rfl
theorem enA_92 : enterA Try.prog 92 = true := by kernel_rfl
theorem en_92 {args : List AV} {K : AV → ASt → Prop} {S : ASt} (hl : args.length ≤ 39) (h : wpR Try.prog rc_92 (bodyQ [.t 2] K) (argF 0 args) S) : ACalls Try.prog 92 args S K := ACalls.of Try.func92 enA_92 kr_92 hl h

/-- (*salvor/fixed.Rec).hold -/
def rc_93 : RC :=
  .reg [⟨false, none, .mov (.t 0), some 4⟩,
  ⟨false, none, .nck (.t 4), some 5⟩,
  ⟨false, none, .fld 2 (.t 5), some 6⟩,
  ⟨false, none, .load (.t 6), some 7⟩,
  ⟨false, none, .mov (.t 0), some 8⟩,
  ⟨false, none, .nck (.t 8), some 9⟩,
  ⟨false, none, .fld 0 (.t 9), some 10⟩,
  ⟨false, none, .load (.t 10), some 11⟩,
  ⟨false, none, .bin .lss (.t 7) (.t 11), some 12⟩] (.cond (.t 12) (.reg [⟨false, none, .mov (.t 0), some 13⟩,
  ⟨false, none, .mov (.t 0), some 14⟩,
  ⟨false, none, .nck (.t 14), some 15⟩,
  ⟨false, none, .fld 1 (.t 15), some 16⟩,
  ⟨false, none, .load (.t 16), some 17⟩,
  ⟨false, none, .mov (.t 1), some 18⟩,
  ⟨false, none, .mkSl false 1 1 (.int .u8 0) [(0, .t 18)], some 19⟩,
  ⟨false, none, .app 1 (.t 17) (.t 19), some 20⟩,
  ⟨false, none, .nck (.t 13), some 21⟩,
  ⟨false, none, .fld 1 (.t 21), some 22⟩,
  ⟨false, none, .st 1 (.t 22) (.t 20), none⟩] (.nop)) (.nop) (.reg [⟨false, none, .mov (.t 0), some 23⟩,
  ⟨false, none, .nck (.t 23), some 24⟩,
  ⟨false, none, .fld 2 (.t 24), some 25⟩,
  ⟨false, none, .load (.t 25), some 26⟩,
  ⟨false, none, .bin .add (.t 26) (.c (.int .i64 1)), some 27⟩,
  ⟨false, none, .nck (.t 23), some 28⟩,
  ⟨false, none, .fld 2 (.t 28), some 29⟩,
  ⟨false, none, .st 1 (.t 29) (.t 27), none⟩] (.nop)))
def hn_93 : Hn := { M := { own := fun _ => false, rb := fun _ => none, ord := fun r => if r = 0 then [0, 1, 2, 3, 4, 5, 6, 7, 8] else [] }, live := fun _ => [], ms := [62, 65, 69] }
theorem kr_93 : rdy Try.prog hn_93 Try.f93 = some (rc_93, [], 30) := by kernel_rfl
theorem enA_93 : enterA Try.prog 93 = true := by kernel_rfl
theorem en_93 {args : List AV} {K : AV → ASt → Prop} {S : ASt} (hl : args.length ≤ 30) (h : wpR Try.prog rc_93 (bodyQ [] K) (argF 0 args) S) : ACalls Try.prog 93 args S K := ACalls.of Try.func93 enA_93 kr_93 hl h

/-- (*salvor/fixed.Rec).free -/
def rc_94 : RC :=
  .reg [⟨false, none, .mov (.c (.sl .nil 0 [])), some 2⟩] (.reg [⟨false, none, .mov (.t 0), some 4⟩,
  ⟨false, none, .nck (.t 4), some 5⟩,
  ⟨false, none, .fld 1 (.t 5), some 6⟩,
  ⟨false, none, .load (.t 6), some 7⟩,
  ⟨false, none, .mov (.t 7), some 3⟩] (.reg [⟨false, none, .mov (.t 0), some 8⟩,
  ⟨false, none, .mov (.t 0), some 9⟩,
  ⟨false, none, .nck (.t 8), some 10⟩,
  ⟨false, none, .fld 1 (.t 10), some 11⟩,
  ⟨false, none, .st 1 (.t 11) (.c (.sl .nil 0 [])), none⟩,
  ⟨false, none, .nck (.t 9), some 12⟩,
  ⟨false, none, .fld 2 (.t 12), some 13⟩,
  ⟨false, none, .st 1 (.t 13) (.c (.int .i64 0)), none⟩] (.reg [⟨false, none, .mov (.t 3), some 14⟩,
  ⟨false, none, .mov (.t 14), some 2⟩] (.ret))))
def hn_94 : Hn := { M := { own := fun _ => false, rb := fun _ => none, ord := fun _ => [] }, live := fun _ => [], ms := [62, 65, 69] }
theorem kr_94 : rdy Try.prog hn_94 Try.f94 = some (rc_94, [.t 2], 15) := by kernel_rfl
theorem enA_94 : enterA Try.prog 94 = true := by kernel_rfl
theorem en_94 {args : List AV} {K : AV → ASt → Prop} {S : ASt} (hl : args.length ≤ 15) (h : wpR Try.prog rc_94 (bodyQ [.t 2] K) (argF 0 args) S) : ACalls Try.prog 94 args S K := ACalls.of Try.func94 enA_94 kr_94 hl h

/-- bytes.Repeat -/
def rc_95 : RC :=
  .reg [⟨false, none, .mov (.c (.sl .nil 0 [])), some 4⟩] (.reg [⟨false, none, .mov (.t 1), some 12⟩,
  ⟨false, none, .bin .eql (.t 12) (.c (.int .i64 0)), some 13⟩] (.cond (.t 13) (.reg [⟨false, none, .mkSl false 1 0 (.int .u8 0) [], some 14⟩,
  ⟨false, none, .mov (.t 14), some 4⟩] (.ret)) (.nop) (.reg [⟨false, none, .mov (.t 1), some 15⟩,
  ⟨false, none, .bin .lss (.t 15) (.c (.int .i64 0)), some 16⟩] (.cond (.t 16) (.reg [⟨false, none, .iface 9 (.c (.str [98, 121, 116, 101, 115, 58, 32, 110, 101, 103, 97, 116, 105, 118, 101, 32, 82, 101, 112, 101, 97, 116, 32, 99, 111, 117, 110, 116])), some 17⟩,
  ⟨false, none, .no, none⟩] (.nop)) (.nop) (.reg [⟨false, none, .mov (.t 0), some 19⟩,
  ⟨false, none, .len (.t 19), some 20⟩,
  ⟨false, none, .toInt .u64 (.t 20), some 21⟩,
  ⟨false, none, .mov (.t 1), some 22⟩,
  ⟨false, none, .toInt .u64 (.t 22), some 23⟩,
  ⟨false, none, .call 96 [.t 21, .t 23], some 24⟩,
  ⟨false, none, .mov (.t 24), some 18⟩,
  ⟨false, none, .ext (.t 18) 0, some 25⟩,
  ⟨false, none, .ext (.t 18) 1, some 26⟩,
  ⟨false, none, .mov (.t 25), some 5⟩,
  ⟨false, none, .mov (.t 26), some 6⟩] (.reg [⟨false, none, .mov (.t 5), some 27⟩,
  ⟨false, none, .bin .gtr (.t 27) (.c (.int .u64 0)), some 28⟩,
  ⟨false, none, .mov (.t 28), some 29⟩,
  ⟨false, (some (29, false)), .mov (.t 6), some 30⟩,
  ⟨false, (some (29, false)), .bin .gtr (.t 30) (.c (.int .u64 9223372036854775807)), some 31⟩,
  ⟨false, none, .pick (.t 29) (.c (.bool true)) (.t 31), some 32⟩] (.cond (.t 32) (.reg [⟨false, none, .iface 9 (.c (.str [98, 121, 116, 101, 115, 58, 32, 82, 101, 112, 101, 97, 116, 32, 111, 117, 116, 112, 117, 116, 32, 108, 101, 110, 103, 116, 104, 32, 111, 118, 101, 114, 102, 108, 111, 119])), some 33⟩,
  ⟨false, none, .no, none⟩] (.nop)) (.nop) (.reg [⟨false, none, .mov (.t 6), some 34⟩,
  ⟨false, none, .toInt .i64 (.t 34), some 35⟩,
  ⟨false, none, .mov (.t 35), some 7⟩] (.reg [⟨false, none, .mov (.t 0), some 36⟩,
  ⟨false, none, .len (.t 36), some 37⟩,
  ⟨false, none, .bin .eql (.t 37) (.c (.int .i64 0)), some 38⟩] (.cond (.t 38) (.reg [⟨false, none, .mkSl false 1 0 (.int .u8 0) [], some 39⟩,
  ⟨false, none, .mov (.t 39), some 4⟩] (.ret)) (.nop) (.reg [⟨false, none, .mov (.t 7), some 40⟩,
  ⟨false, none, .mov (.t 40), some 8⟩] (.reg [⟨false, none, .mov (.t 8), some 41⟩,
  ⟨false, none, .bin .gtr (.t 41) (.c (.int .i64 8192)), some 42⟩] (.cond (.t 42) (.reg [⟨false, none, .mov (.t 0), some 43⟩,
  ⟨false, none, .len (.t 43), some 44⟩,
  ⟨false, none, .bin .quo (.c (.int .i64 8192)) (.t 44), some 45⟩,
  ⟨false, none, .mov (.t 0), some 46⟩,
  ⟨false, none, .len (.t 46), some 47⟩,
  ⟨false, none, .bin .mul (.t 45) (.t 47), some 48⟩,
  ⟨false, none, .mov (.t 48), some 8⟩] (.reg [⟨false, none, .mov (.t 8), some 49⟩,
  ⟨false, none, .bin .eql (.t 49) (.c (.int .i64 0)), some 50⟩] (.cond (.t 50) (.reg [⟨false, none, .mov (.t 0), some 51⟩,
  ⟨false, none, .len (.t 51), some 52⟩,
  ⟨false, none, .mov (.t 52), some 8⟩] (.nop)) (.nop) (.nop)))) (.nop) (.reg [⟨false, none, .mov (.t 7), some 53⟩,
  ⟨false, none, .call 97 [.t 53], some 54⟩,
  ⟨false, none, .mov (.t 7), some 55⟩,
  ⟨false, none, .mov (.t 7), some 56⟩,
  ⟨false, none, .no, some 57⟩,
  ⟨false, none, .mov (.t 57), some 9⟩] (.reg [⟨false, none, .mov (.t 9), some 58⟩,
  ⟨false, none, .mov (.t 0), some 59⟩,
  ⟨false, none, .no, some 60⟩,
  ⟨false, none, .mov (.t 60), some 10⟩] (.block 0 (.loop [7, 8, 9, 10] (.reg [⟨false, none, .mov (.t 10), some 61⟩,
  ⟨false, none, .mov (.t 7), some 62⟩,
  ⟨false, none, .bin .lss (.t 61) (.t 62), some 63⟩] (.cond (.t 63) (.nop) (.exit 0) (.block 1 (.reg [⟨false, none, .mov (.t 10), some 64⟩,
  ⟨false, none, .mov (.t 8), some 65⟩,
  ⟨false, none, .min (.t 64) (.t 65), some 66⟩,
  ⟨false, none, .mov (.t 66), some 11⟩] (.reg [⟨false, none, .mov (.t 10), some 67⟩,
  ⟨false, none, .mov (.t 9), some 68⟩,
  ⟨false, none, .mov (.t 10), some 69⟩,
  ⟨false, none, .slice 1 (.t 68) (some (.t 69)) none, some 70⟩,
  ⟨false, none, .mov (.t 9), some 71⟩,
  ⟨false, none, .mov (.t 11), some 72⟩,
  ⟨false, none, .slice 1 (.t 71) none (some (.t 72)), some 73⟩,
  ⟨false, none, .no, some 74⟩,
  ⟨false, none, .bin .add (.t 67) (.t 74), some 75⟩,
  ⟨false, none, .mov (.t 75), some 10⟩] (.nop))) (.nop))))) (.reg [⟨false, none, .mov (.t 9), some 76⟩,
  ⟨false, none, .mov (.t 76), some 4⟩] (.ret))))))))))))))))))
def hn_95 : Hn := { M := { own := fun _ => false, rb := fun _ => none, ord := fun r => if r = 20 then [0, 1, 2, 3, 4, 5, 6, 7, 8, 9] else [] }, live := fun r => if r = 18 then [7, 8, 9, 10] else [], ms := [62, 65, 69] }
theorem kr_95 : rdy Try.prog hn_95 Try.f95 = some (rc_95, [.t 4], 77) := by kernel_rfl
theorem enA_95 : enterA Try.prog 95 = true := by kernel_rfl
theorem en_95 {args : List AV} {K : AV → ASt → Prop} {S : ASt} (hl : args.length ≤ 77) (h : wpR Try.prog rc_95 (bodyQ [.t 4] K) (argF 0 args) S) : ACalls Try.prog 95 args S K := ACalls.of Try.func95 enA_95 kr_95 hl h

/-- math/bits.Mul -/
def rc_96 : RC :=
  .reg [⟨false, none, .mov (.c (.int .u64 0)), some 4⟩,
  ⟨false, none, .mov (.c (.int .u64 0)), some 5⟩] (.cond (.c (.bool false)) (.reg [⟨false, none, .mov (.t 0), some 11⟩,
  ⟨false, none, .toInt .u32 (.t 11), some 12⟩,
  ⟨false, none, .mov (.t 1), some 13⟩,
  ⟨false, none, .toInt .u32 (.t 13), some 14⟩,
  ⟨false, none, .call 98 [.t 12, .t 14], some 15⟩,
  ⟨false, none, .mov (.t 15), some 10⟩,
  ⟨false, none, .ext (.t 10) 0, some 16⟩,
  ⟨false, none, .ext (.t 10) 1, some 17⟩,
  ⟨false, none, .mov (.t 16), some 6⟩,
  ⟨false, none, .mov (.t 17), some 7⟩] (.reg [⟨false, none, .mov (.t 6), some 18⟩,
  ⟨false, none, .toInt .u64 (.t 18), some 19⟩,
  ⟨false, none, .mov (.t 7), some 20⟩,
  ⟨false, none, .toInt .u64 (.t 20), some 21⟩,
  ⟨false, none, .mov (.t 19), some 4⟩,
  ⟨false, none, .mov (.t 21), some 5⟩] (.ret))) (.nop) (.reg [⟨false, none, .mov (.t 0), some 23⟩,
  ⟨false, none, .mov (.t 1), some 24⟩,
  ⟨false, none, .call 99 [.t 23, .t 24], some 25⟩,
  ⟨false, none, .mov (.t 25), some 22⟩,
  ⟨false, none, .ext (.t 22) 0, some 26⟩,
  ⟨false, none, .ext (.t 22) 1, some 27⟩,
  ⟨false, none, .mov (.t 26), some 8⟩,
  ⟨false, none, .mov (.t 27), some 9⟩] (.reg [⟨false, none, .mov (.t 8), some 28⟩,
  ⟨false, none, .mov (.t 9), some 29⟩,
  ⟨false, none, .mov (.t 28), some 4⟩,
  ⟨false, none, .mov (.t 29), some 5⟩] (.ret))))
def hn_96 : Hn := { M := { own := fun _ => false, rb := fun _ => none, ord := fun _ => [] }, live := fun _ => [], ms := [62, 65, 69] }
theorem kr_96 : rdy Try.prog hn_96 Try.f96 = some (rc_96, [.t 4, .t 5], 30) := by kernel_rfl
theorem enA_96 : enterA Try.prog 96 = true := by kernel_rfl
theorem en_96 {args : List AV} {K : AV → ASt → Prop} {S : ASt} (hl : args.length ≤ 30) (h : wpR Try.prog rc_96 (bodyQ [.t 4, .t 5] K) (argF 0 args) S) : ACalls Try.prog 96 args S K := ACalls.of Try.func96 enA_96 kr_96 hl h

/-- math/bits.Mul32 -/
def rc_98 : RC :=
  .reg [⟨false, none, .mov (.c (.int .u32 0)), some 4⟩,
  ⟨false, none, .mov (.c (.int .u32 0)), some 5⟩] (.reg [⟨false, none, .mov (.t 0), some 7⟩,
  ⟨false, none, .toInt .u64 (.t 7), some 8⟩,
  ⟨false, none, .mov (.t 1), some 9⟩,
  ⟨false, none, .toInt .u64 (.t 9), some 10⟩,
  ⟨false, none, .bin .mul (.t 8) (.t 10), some 11⟩,
  ⟨false, none, .mov (.t 11), some 6⟩] (.reg [⟨false, none, .mov (.t 6), some 12⟩,
  ⟨false, none, .bin .shr (.t 12) (.c (.int .u64 32)), some 13⟩,
  ⟨false, none, .toInt .u32 (.t 13), some 14⟩,
  ⟨false, none, .mov (.t 6), some 15⟩,
  ⟨false, none, .toInt .u32 (.t 15), some 16⟩,
  ⟨false, none, .mov (.t 14), some 4⟩,
  ⟨false, none, .mov (.t 16), some 5⟩] (.ret)))
def hn_98 : Hn := { M := { own := fun _ => false, rb := fun _ => none, ord := fun _ => [] }, live := fun _ => [], ms := [62, 65, 69] }
theorem kr_98 : rdy Try.prog hn_98 Try.f98 = some (rc_98, [.t 4, .t 5], 17) := by kernel_rfl
theorem enA_98 : enterA Try.prog 98 = true := by kernel_rfl
theorem en_98 {args : List AV} {K : AV → ASt → Prop} {S : ASt} (hl : args.length ≤ 17) (h : wpR Try.prog rc_98 (bodyQ [.t 4, .t 5] K) (argF 0 args) S) : ACalls Try.prog 98 args S K := ACalls.of Try.func98 enA_98 kr_98 hl h

/-- math/bits.Mul64 -/
def rc_99 : RC :=
  .reg [⟨false, none, .mov (.c (.int .u64 0)), some 4⟩,
  ⟨false, none, .mov (.c (.int .u64 0)), some 5⟩] (.reg [⟨false, none, .mov (.t 0), some 14⟩,
  ⟨false, none, .bin .and (.t 14) (.c (.int .u64 4294967295)), some 15⟩,
  ⟨false, none, .mov (.t 15), some 6⟩] (.reg [⟨false, none, .mov (.t 0), some 16⟩,
  ⟨false, none, .bin .shr (.t 16) (.c (.int .u64 32)), some 17⟩,
  ⟨false, none, .mov (.t 17), some 7⟩] (.reg [⟨false, none, .mov (.t 1), some 18⟩,
  ⟨false, none, .bin .and (.t 18) (.c (.int .u64 4294967295)), some 19⟩,
  ⟨false, none, .mov (.t 19), some 8⟩] (.reg [⟨false, none, .mov (.t 1), some 20⟩,
  ⟨false, none, .bin .shr (.t 20) (.c (.int .u64 32)), some 21⟩,
  ⟨false, none, .mov (.t 21), some 9⟩] (.reg [⟨false, none, .mov (.t 6), some 22⟩,
  ⟨false, none, .mov (.t 8), some 23⟩,
  ⟨false, none, .bin .mul (.t 22) (.t 23), some 24⟩,
  ⟨false, none, .mov (.t 24), some 10⟩] (.reg [⟨false, none, .mov (.t 7), some 25⟩,
  ⟨false, none, .mov (.t 8), some 26⟩,
  ⟨false, none, .bin .mul (.t 25) (.t 26), some 27⟩,
  ⟨false, none, .mov (.t 10), some 28⟩,
  ⟨false, none, .bin .shr (.t 28) (.c (.int .u64 32)), some 29⟩,
  ⟨false, none, .bin .add (.t 27) (.t 29), some 30⟩,
  ⟨false, none, .mov (.t 30), some 11⟩] (.reg [⟨false, none, .mov (.t 11), some 31⟩,
  ⟨false, none, .bin .and (.t 31) (.c (.int .u64 4294967295)), some 32⟩,
  ⟨false, none, .mov (.t 32), some 12⟩] (.reg [⟨false, none, .mov (.t 11), some 33⟩,
  ⟨false, none, .bin .shr (.t 33) (.c (.int .u64 32)), some 34⟩,
  ⟨false, none, .mov (.t 34), some 13⟩] (.reg [⟨false, none, .mov (.t 12), some 35⟩,
  ⟨false, none, .mov (.t 6), some 36⟩,
  ⟨false, none, .mov (.t 9), some 37⟩,
  ⟨false, none, .bin .mul (.t 36) (.t 37), some 38⟩,
  ⟨false, none, .bin .add (.t 35) (.t 38), some 39⟩,
  ⟨false, none, .mov (.t 39), some 12⟩] (.reg [⟨false, none, .mov (.t 7), some 40⟩,
  ⟨false, none, .mov (.t 9), some 41⟩,
  ⟨false, none, .bin .mul (.t 40) (.t 41), some 42⟩,
  ⟨false, none, .mov (.t 13), some 43⟩,
  ⟨false, none, .bin .add (.t 42) (.t 43), some 44⟩,
  ⟨false, none, .mov (.t 12), some 45⟩,
  ⟨false, none, .bin .shr (.t 45) (.c (.int .u64 32)), some 46⟩,
  ⟨false, none, .bin .add (.t 44) (.t 46), some 47⟩,
  ⟨false, none, .mov (.t 47), some 4⟩] (.reg [⟨false, none, .mov (.t 0), some 48⟩,
  ⟨false, none, .mov (.t 1), some 49⟩,
  ⟨false, none, .bin .mul (.t 48) (.t 49), some 50⟩,
  ⟨false, none, .mov (.t 50), some 5⟩] (.ret))))))))))))
def hn_99 : Hn := { M := { own := fun _ => false, rb := fun _ => none, ord := fun _ => [] }, live := fun _ => [], ms := [62, 65, 69] }
theorem kr_99 : rdy Try.prog hn_99 Try.f99 = some (rc_99, [.t 4, .t 5], 51) := by kernel_rfl
theorem enA_99 : enterA Try.prog 99 = true := by kernel_rfl
theorem en_99 {args : List AV} {K : AV → ASt → Prop} {S : ASt} (hl : args.length ≤ 51) (h : wpR Try.prog rc_99 (bodyQ [.t 4, .t 5] K) (argF 0 args) S) : ACalls Try.prog 99 args S K := ACalls.of Try.func99 enA_99 kr_99 hl h

/-- (*salvor/fixed.Unpacker).End -/
def rc_100 : RC :=
  .reg [⟨false, none, .mov (.c (.sl .nil 0 [])), some 2⟩] (.reg [⟨false, none, .mov (.t 0), some 3⟩,
  ⟨false, none, .nck (.t 3), some 4⟩,
  ⟨false, none, .fld 0 (.t 4), some 5⟩,
  ⟨false, none, .fld 2 (.t 5), some 6⟩,
  ⟨false, none, .load (.t 6), some 7⟩,
  ⟨false, none, .bin .eql (.t 7) (.c (.int .i64 0)), some 8⟩] (.cond (.t 8) (.reg [⟨false, none, .mov (.c (.sl .nil 0 [])), some 2⟩] (.ret)) (.nop) (.reg [⟨false, none, .mov (.t 0), some 9⟩,
  ⟨false, none, .call 102 [.t 9], some 10⟩,
  ⟨false, none, .mov (.t 10), some 2⟩] (.ret))))
def hn_100 : Hn := { M := { own := fun _ => false, rb := fun _ => none, ord := fun _ => [] }, live := fun _ => [], ms := [62, 65, 69] }
theorem kr_100 : rdy Try.prog hn_100 Try.f100 = some (rc_100, [.t 2], 11) := by kernel_rfl
theorem enA_100 : enterA Try.prog 100 = true := by kernel_rfl
theorem en_100 {args : List AV} {K : AV → ASt → Prop} {S : ASt} (hl : args.length ≤ 11) (h : wpR Try.prog rc_100 (bodyQ [.t 2] K) (argF 0 args) S) : ACalls Try.prog 100 args S K := ACalls.of Try.func100 enA_100 kr_100 hl h

/-- (*salvor/fixed.Unpacker).Put -/
def rc_101 : RC :=
  .reg [⟨false, none, .mov (.c (.sl .nil 0 [])), some 4⟩] (.reg [⟨false, none, .mov (.c (.sl .nil 0 [])), some 5⟩] (.reg [⟨false, none, .mov (.t 1), some 8⟩,
  ⟨false, none, .len (.t 8), some 9⟩,
  ⟨false, none, .mov (.c (.int .i64 0)), some 10⟩] (.block 0 (.loop [0, 5, 8, 9, 10] (.reg [⟨false, none, .bin .lss (.t 10) (.t 9), some 11⟩] (.cond (.t 11) (.nop) (.exit 0) (.block 1 (.reg [⟨false, none, .idx 1 (.t 8) (.t 10), some 12⟩,
  ⟨false, none, .load (.t 12), some 13⟩,
  ⟨false, none, .mov (.t 13), some 7⟩] (.reg [⟨false, none, .mov (.t 0), some 14⟩,
  ⟨false, none, .nck (.t 14), some 15⟩,
  ⟨false, none, .fld 0 (.t 15), some 16⟩,
  ⟨false, none, .mov (.t 7), some 17⟩,
  ⟨false, none, .call 93 [.t 16, .t 17], some 18⟩] (.reg [⟨false, none, .mov (.t 0), some 19⟩,
  ⟨false, none, .nck (.t 19), some 20⟩,
  ⟨false, none, .fld 0 (.t 20), some 21⟩,
  ⟨false, none, .fld 2 (.t 21), some 22⟩,
  ⟨false, none, .load (.t 22), some 23⟩,
  ⟨false, none, .mov (.t 0), some 24⟩,
  ⟨false, none, .nck (.t 24), some 25⟩,
  ⟨false, none, .fld 0 (.t 25), some 26⟩,
  ⟨false, none, .fld 0 (.t 26), some 27⟩,
  ⟨false, none, .load (.t 27), some 28⟩,
  ⟨false, none, .bin .eql (.t 23) (.t 28), some 29⟩] (.cond (.t 29) (.reg [⟨false, none, .mov (.t 5), some 30⟩,
  ⟨false, none, .mov (.t 0), some 31⟩,
  ⟨false, none, .call 102 [.t 31], some 32⟩,
  ⟨false, none, .app 1 (.t 30) (.t 32), some 33⟩,
  ⟨false, none, .mov (.t 33), some 5⟩] (.nop)) (.nop) (.nop))))) (.reg [⟨false, none, .bin .add (.t 10) (.c (.int .i64 1)), some 34⟩,
  ⟨false, none, .mov (.t 34), some 10⟩] (.nop)))))) (.reg [⟨false, none, .mov (.t 5), some 35⟩,
  ⟨false, none, .mov (.t 35), some 4⟩] (.ret)))))
def hn_101 : Hn := { M := { own := fun _ => false, rb := fun _ => none, ord := fun r => if r = 6 then [0, 1, 2, 3, 4, 5, 6, 7, 8, 9, 10] else [] }, live := fun r => if r = 3 then [0, 5, 8, 9, 10] else [], ms := [62, 65, 69] }
theorem kr_101 : rdy Try.prog hn_101 Try.f101 = some (rc_101, [.t 4], 36) := by kernel_rfl
theorem enA_101 : enterA Try.prog 101 = true := by kernel_rfl
theorem en_101 {args : List AV} {K : AV → ASt → Prop} {S : ASt} (hl : args.length ≤ 36) (h : wpR Try.prog rc_101 (bodyQ [.t 4] K) (argF 0 args) S) : ACalls Try.prog 101 args S K := ACalls.of Try.func101 enA_101 kr_101 hl h

/-- (*salvor/fixed.Unpacker).line -/
def rc_102 : RC :=
  .reg [⟨false, none, .mov (.c (.sl .nil 0 [])), some 2⟩] (.reg [⟨false, none, .mov (.t 0), some 4⟩,
  ⟨false, none, .nck (.t 4), some 5⟩,
  ⟨false, none, .fld 0 (.t 5), some 6⟩,
  ⟨false, none, .call 94 [.t 6], some 7⟩,
  ⟨false, none, .mov (.t 7), some 3⟩] (.block 0 (.loop [3] (.reg [⟨false, none, .mov (.t 3), some 8⟩,
  ⟨false, none, .len (.t 8), some 9⟩,
  ⟨false, none, .bin .gtr (.t 9) (.c (.int .i64 0)), some 10⟩,
  ⟨false, none, .mov (.t 10), some 11⟩,
  ⟨false, (some (11, true)), .mov (.t 3), some 12⟩,
  ⟨false, (some (11, true)), .mov (.t 3), some 13⟩,
  ⟨false, (some (11, true)), .len (.t 13), some 14⟩,
  ⟨false, (some (11, true)), .bin .sub (.t 14) (.c (.int .i64 1)), some 15⟩,
  ⟨false, (some (11, true)), .idx 1 (.t 12) (.t 15), some 16⟩,
  ⟨false, (some (11, true)), .load (.t 16), some 17⟩,
  ⟨false, (some (11, true)), .bin .eql (.t 17) (.c (.int .u8 32)), some 18⟩,
  ⟨false, none, .pick (.t 11) (.t 18) (.c (.bool false)), some 19⟩] (.cond (.t 19) (.nop) (.exit 0) (.block 1 (.reg [⟨false, none, .mov (.t 3), some 20⟩,
  ⟨false, none, .mov (.t 3), some 21⟩,
  ⟨false, none, .len (.t 21), some 22⟩,
  ⟨false, none, .bin .sub (.t 22) (.c (.int .i64 1)), some 23⟩,
  ⟨false, none, .slice 1 (.t 20) none (some (.t 23)), some 24⟩,
  ⟨false, none, .mov (.t 24), some 3⟩] (.nop)) (.nop))))) (.reg [⟨false, none, .mov (.t 3), some 25⟩,
  ⟨false, none, .mkSl false 1 1 (.int .u8 0) [(0, .c (.int .u8 10))], some 26⟩,
  ⟨false, none, .app 1 (.t 25) (.t 26), some 27⟩,
  ⟨false, none, .mov (.t 27), some 2⟩] (.ret))))
def hn_102 : Hn := { M := { own := fun _ => false, rb := fun _ => none, ord := fun _ => [] }, live := fun r => if r = 2 then [3] else [], ms := [62, 65, 69] }
theorem kr_102 : rdy Try.prog hn_102 Try.f102 = some (rc_102, [.t 2], 28) := by kernel_rfl
theorem enA_102 : enterA Try.prog 102 = true := by kernel_rfl
theorem en_102 {args : List AV} {K : AV → ASt → Prop} {S : ASt} (hl : args.length ≤ 28) (h : wpR Try.prog rc_102 (bodyQ [.t 2] K) (argF 0 args) S) : ACalls Try.prog 102 args S K := ACalls.of Try.func102 enA_102 kr_102 hl h

end Go.Proofs.Ythpomdoaiibnfaa.Abs
