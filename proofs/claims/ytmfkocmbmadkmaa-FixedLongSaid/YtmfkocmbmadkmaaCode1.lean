/- The code of the functions, made ready for running. -/
import Derived.Test.YtmfkocmbmadkmaaVc5
import Derived.Test.YtmfkocmbmadkmaaProg
import Derived.KernelRfl
namespace Go.Proofs.Ytmfkocmbmadkmaa.Abs
open Go Go.Proofs
set_option maxRecDepth 100000
/-- salvor/salvorlaw7.FixedRuns -/
def rc_3 : RC :=
  .reg [⟨false, none, .mov (.c (.bool false)), some 0⟩] (.reg [⟨false, none, .call 9 [.c (.int .i64 3)], some 7⟩,
  ⟨false, none, .call 10 [.c (.int .i64 3)], some 8⟩,
  ⟨false, none, .mov (.t 7), some 1⟩,
  ⟨false, none, .mov (.t 8), some 2⟩] (.reg [⟨false, none, .mov (.t 1), some 9⟩,
  ⟨false, none, .eqp false (.t 9) (.c (.ptr none)), some 10⟩,
  ⟨false, none, .mov (.t 10), some 11⟩,
  ⟨false, (some (11, false)), .mov (.t 2), some 12⟩,
  ⟨false, (some (11, false)), .eqp false (.t 12) (.c (.ptr none)), some 13⟩,
  ⟨false, none, .pick (.t 11) (.c (.bool true)) (.t 13), some 14⟩] (.cond (.t 14) (.reg [⟨false, none, .mov (.c (.bool false)), some 0⟩] (.ret)) (.nop) (.reg [⟨false, none, .mov (.t 1), some 15⟩,
  ⟨false, none, .mkSl true 1 8 (.int .u8 0) [(0, .c (.int .u8 97)), (1, .c (.int .u8 98)), (2, .c (.int .u8 10)), (3, .c (.int .u8 99)), (4, .c (.int .u8 100)), (5, .c (.int .u8 101)), (6, .c (.int .u8 102)), (7, .c (.int .u8 10))], some 16⟩,
  ⟨false, none, .frz (.t 16), some 17⟩,
  ⟨false, none, .call 11 [.t 15, .t 17], some 18⟩,
  ⟨false, none, .mov (.t 18), some 3⟩] (.reg [⟨false, none, .mov (.t 2), some 19⟩,
  ⟨false, none, .mkSl true 1 4 (.int .u8 0) [(0, .c (.int .u8 97)), (1, .c (.int .u8 98)), (2, .c (.int .u8 32)), (3, .c (.int .u8 99))], some 20⟩,
  ⟨false, none, .frz (.t 20), some 21⟩,
  ⟨false, none, .call 12 [.t 19, .t 21], some 22⟩,
  ⟨false, none, .mov (.t 22), some 4⟩] (.reg [⟨false, none, .mov (.t 2), some 23⟩,
  ⟨false, none, .nck (.t 23), some 24⟩,
  ⟨false, none, .fld 0 (.t 24), some 25⟩,
  ⟨false, none, .call 13 [.t 25], some 26⟩,
  ⟨false, none, .mov (.t 26), some 5⟩] (.reg [⟨false, none, .mov (.t 2), some 27⟩,
  ⟨false, none, .call 14 [.t 27], some 28⟩,
  ⟨false, none, .mov (.t 28), some 6⟩] (.reg [⟨false, none, .mov (.t 3), some 29⟩,
  ⟨false, none, .toStr (.t 29), some 30⟩,
  ⟨false, none, .bin .eql (.t 30) (.c (.str [97, 98, 32, 99, 100, 101])), some 31⟩,
  ⟨false, none, .mov (.t 31), some 32⟩,
  ⟨false, (some (32, true)), .mov (.t 1), some 33⟩,
  ⟨false, (some (32, true)), .call 15 [.t 33], some 34⟩,
  ⟨false, (some (32, true)), .bin .eql (.t 34) (.c (.int .i64 1)), some 35⟩,
  ⟨false, none, .pick (.t 32) (.t 35) (.c (.bool false)), some 36⟩,
  ⟨false, none, .mov (.t 36), some 37⟩,
  ⟨false, (some (37, true)), .mov (.t 4), some 38⟩,
  ⟨false, (some (37, true)), .toStr (.t 38), some 39⟩,
  ⟨false, (some (37, true)), .bin .eql (.t 39) (.c (.str [97, 98, 10])), some 40⟩,
  ⟨false, none, .pick (.t 37) (.t 40) (.c (.bool false)), some 41⟩,
  ⟨false, none, .mov (.t 41), some 42⟩,
  ⟨false, (some (42, true)), .mov (.t 5), some 43⟩,
  ⟨false, (some (42, true)), .bin .eql (.t 43) (.c (.int .i64 1)), some 44⟩,
  ⟨false, none, .pick (.t 42) (.t 44) (.c (.bool false)), some 45⟩,
  ⟨false, none, .mov (.t 45), some 46⟩,
  ⟨false, (some (46, true)), .mov (.t 6), some 47⟩,
  ⟨false, (some (46, true)), .toStr (.t 47), some 48⟩,
  ⟨false, (some (46, true)), .bin .eql (.t 48) (.c (.str [99, 10])), some 49⟩,
  ⟨false, none, .pick (.t 46) (.t 49) (.c (.bool false)), some 50⟩,
  ⟨false, none, .mov (.t 50), some 51⟩,
  ⟨false, (some (51, true)), .mov (.t 2), some 52⟩,
  ⟨false, (some (51, true)), .nck (.t 52), some 53⟩,
  ⟨false, (some (51, true)), .fld 0 (.t 53), some 54⟩,
  ⟨false, (some (51, true)), .call 13 [.t 54], some 55⟩,
  ⟨false, (some (51, true)), .bin .eql (.t 55) (.c (.int .i64 0)), some 56⟩,
  ⟨false, none, .pick (.t 51) (.t 56) (.c (.bool false)), some 57⟩,
  ⟨false, none, .mov (.t 57), some 58⟩,
  ⟨false, (some (58, true)), .mov (.t 1), some 59⟩,
  ⟨false, (some (58, true)), .nck (.t 59), some 60⟩,
  ⟨false, (some (58, true)), .fld 0 (.t 60), some 61⟩,
  ⟨false, (some (58, true)), .call 16 [.t 61], some 62⟩,
  ⟨false, (some (58, true)), .bin .eql (.t 62) (.c (.int .i64 3)), some 63⟩,
  ⟨false, none, .pick (.t 58) (.t 63) (.c (.bool false)), some 64⟩,
  ⟨false, none, .mov (.t 64), some 0⟩] (.ret)))))))))
def hn_3 : Hn := { M := { own := fun d => d == 16 || d == 20, rb := fun _ => none, ord := fun _ => [] }, live := fun _ => [], ms := [] }
theorem kr_3 : rdy Try.prog hn_3 Try.f3 = some (rc_3, [.t 0], 65) := by kernel_rfl
theorem enA_3 : enterA Try.prog 3 = true := by kernel_rfl
theorem en_3 {args : List AV} {K : AV → ASt → Prop} {S : ASt} (hl : args.length ≤ 65) (h : wpR Try.prog rc_3 (bodyQ [.t 0] K) (argF 0 args) S) : ACalls Try.prog 3 args S K := ACalls.of Try.func3 enA_3 kr_3 hl h

/-- salvor/salvorlaw7.FixedUnpacks -/
def rc_4 : RC :=
  .reg [⟨false, none, .mov (.c (.bool false)), some 6⟩] (.reg [⟨false, none, .mov (.t 0), some 10⟩,
  ⟨false, none, .mov (.t 1), some 11⟩,
  ⟨false, none, .call 17 [.t 10, .t 11], some 12⟩,
  ⟨false, none, .not (.t 12), some 13⟩] (.cond (.t 13) (.reg [⟨false, none, .call 3 [], some 14⟩,
  ⟨false, none, .mov (.t 14), some 6⟩] (.ret)) (.nop) (.reg [⟨false, none, .mov (.t 0), some 15⟩,
  ⟨false, none, .call 10 [.t 15], some 16⟩,
  ⟨false, none, .mov (.t 0), some 17⟩,
  ⟨false, none, .call 18 [.t 17], some 18⟩,
  ⟨false, none, .build ([.int .i64 0, .sl .nil 0 []]) [(0, 1), (1, 1)] [(0, .t 18)], some 19⟩,
  ⟨false, none, .box (.t 19), some 20⟩,
  ⟨false, none, .mov (.t 16), some 7⟩,
  ⟨false, none, .mov (.t 20), some 8⟩] (.reg [⟨false, none, .mov (.t 7), some 21⟩,
  ⟨false, none, .eqp false (.t 21) (.c (.ptr none)), some 22⟩,
  ⟨false, none, .mov (.t 22), some 23⟩,
  ⟨false, (some (23, false)), .mov (.t 7), some 24⟩,
  ⟨false, (some (23, false)), .nck (.t 24), some 25⟩,
  ⟨false, (some (23, false)), .fld 0 (.t 25), some 26⟩,
  ⟨false, (some (23, false)), .call 16 [.t 26], some 27⟩,
  ⟨false, (some (23, false)), .mov (.t 0), some 28⟩,
  ⟨false, (some (23, false)), .call 18 [.t 28], some 29⟩,
  ⟨false, (some (23, false)), .bin .neq (.t 27) (.t 29), some 30⟩,
  ⟨false, none, .pick (.t 23) (.c (.bool true)) (.t 30), some 31⟩] (.cond (.t 31) (.reg [⟨false, none, .mov (.c (.bool false)), some 6⟩] (.ret)) (.nop) (.reg [⟨false, none, .mov (.c (.int .i64 0)), some 9⟩] (.block 0 (.loop [1, 2, 7, 8, 9] (.reg [⟨false, none, .mov (.t 9), some 32⟩,
  ⟨false, none, .mov (.t 1), some 33⟩,
  ⟨false, none, .len (.t 33), some 34⟩,
  ⟨false, none, .bin .lss (.t 32) (.t 34), some 35⟩] (.cond (.t 35) (.nop) (.exit 0) (.block 1 (.reg [⟨false, none, .mov (.t 7), some 38⟩,
  ⟨false, none, .mov (.t 1), some 39⟩,
  ⟨false, none, .mov (.t 9), some 40⟩,
  ⟨false, none, .idx 1 (.t 39) (.t 40), some 41⟩,
  ⟨false, none, .load (.t 41), some 42⟩,
  ⟨false, none, .mov (.t 8), some 45⟩,
  ⟨false, none, .mov (.t 1), some 46⟩,
  ⟨false, none, .mov (.t 9), some 47⟩,
  ⟨false, none, .idx 1 (.t 46) (.t 47), some 48⟩,
  ⟨false, none, .load (.t 48), some 49⟩,
  ⟨false, none, .call 12 [.t 38, .t 42], some 43⟩,
  ⟨true, none, .load (.t 48), some 49⟩,
  ⟨true, none, .idx 1 (.t 46) (.t 47), some 48⟩,
  ⟨false, none, .toStr (.t 43), some 44⟩,
  ⟨false, none, .call 19 [.t 45, .t 49], some 50⟩,
  ⟨true, none, .toStr (.t 43), some 44⟩,
  ⟨false, none, .toStr (.t 50), some 51⟩,
  ⟨false, none, .bin .neq (.t 44) (.t 51), some 52⟩,
  ⟨false, none, .mov (.t 52), some 53⟩,
  ⟨false, (some (53, false)), .mov (.t 7), some 54⟩,
  ⟨false, (some (53, false)), .nck (.t 54), some 55⟩,
  ⟨false, (some (53, false)), .fld 0 (.t 55), some 56⟩,
  ⟨false, (some (53, false)), .mov (.t 8), some 58⟩,
  ⟨false, (some (53, false)), .nck (.t 58), some 59⟩,
  ⟨false, (some (53, false)), .fld 1 (.t 59), some 60⟩,
  ⟨false, (some (53, false)), .load (.t 60), some 61⟩,
  ⟨false, (some (53, false)), .len (.t 61), some 62⟩,
  ⟨false, (some (53, false)), .call 13 [.t 56], some 57⟩,
  ⟨true, (some (53, false)), .load (.t 60), some 61⟩,
  ⟨true, (some (53, false)), .fld 1 (.t 59), some 60⟩,
  ⟨false, (some (53, false)), .bin .neq (.t 57) (.t 62), some 63⟩,
  ⟨false, none, .pick (.t 53) (.c (.bool true)) (.t 63), some 64⟩] (.cond (.t 64) (.reg [⟨false, none, .mov (.c (.bool false)), some 6⟩] (.ret)) (.nop) (.reg [⟨false, none, .mov (.t 9), some 65⟩,
  ⟨false, none, .mov (.t 2), some 66⟩,
  ⟨false, none, .len (.t 66), some 67⟩,
  ⟨false, none, .bin .lss (.t 65) (.t 67), some 68⟩,
  ⟨false, none, .mov (.t 68), some 69⟩,
  ⟨false, (some (69, true)), .mov (.t 2), some 70⟩,
  ⟨false, (some (69, true)), .mov (.t 9), some 71⟩,
  ⟨false, (some (69, true)), .idx 1 (.t 70) (.t 71), some 72⟩,
  ⟨false, (some (69, true)), .load (.t 72), some 73⟩,
  ⟨false, none, .pick (.t 69) (.t 73) (.c (.bool false)), some 74⟩,
  ⟨false, none, .mov (.t 74), some 75⟩,
  ⟨false, (some (75, true)), .mov (.t 7), some 76⟩,
  ⟨false, (some (75, true)), .mov (.t 8), some 79⟩,
  ⟨false, (some (75, true)), .call 14 [.t 76], some 77⟩,
  ⟨false, (some (75, true)), .toStr (.t 77), some 78⟩,
  ⟨false, (some (75, true)), .call 20 [.t 79], some 80⟩,
  ⟨true, (some (75, true)), .toStr (.t 77), some 78⟩,
  ⟨false, (some (75, true)), .toStr (.t 80), some 81⟩,
  ⟨false, (some (75, true)), .bin .neq (.t 78) (.t 81), some 82⟩,
  ⟨false, none, .pick (.t 75) (.t 82) (.c (.bool false)), some 83⟩] (.cond (.t 83) (.reg [⟨false, none, .mov (.c (.bool false)), some 6⟩] (.ret)) (.nop) (.nop))))) (.reg [⟨false, none, .mov (.t 9), some 36⟩,
  ⟨false, none, .bin .add (.t 36) (.c (.int .i64 1)), some 37⟩,
  ⟨false, none, .mov (.t 37), some 9⟩] (.nop)))))) (.reg [⟨false, none, .mov (.t 7), some 84⟩,
  ⟨false, none, .mov (.t 8), some 87⟩,
  ⟨false, none, .call 14 [.t 84], some 85⟩,
  ⟨false, none, .toStr (.t 85), some 86⟩,
  ⟨false, none, .call 20 [.t 87], some 88⟩,
  ⟨true, none, .toStr (.t 85), some 86⟩,
  ⟨false, none, .toStr (.t 88), some 89⟩,
  ⟨false, none, .bin .eql (.t 86) (.t 89), some 90⟩,
  ⟨false, none, .mov (.t 90), some 91⟩,
  ⟨false, (some (91, true)), .mov (.t 7), some 92⟩,
  ⟨false, (some (91, true)), .nck (.t 92), some 93⟩,
  ⟨false, (some (91, true)), .fld 0 (.t 93), some 94⟩,
  ⟨false, (some (91, true)), .call 13 [.t 94], some 95⟩,
  ⟨false, (some (91, true)), .bin .eql (.t 95) (.c (.int .i64 0)), some 96⟩,
  ⟨false, none, .pick (.t 91) (.t 96) (.c (.bool false)), some 97⟩,
  ⟨false, none, .mov (.t 97), some 98⟩,
  ⟨false, (some (98, true)), .mov (.t 7), some 99⟩,
  ⟨false, (some (98, true)), .call 14 [.t 99], some 100⟩,
  ⟨false, (some (98, true)), .len (.t 100), some 101⟩,
  ⟨false, (some (98, true)), .bin .eql (.t 101) (.c (.int .i64 0)), some 102⟩,
  ⟨false, none, .pick (.t 98) (.t 102) (.c (.bool false)), some 103⟩,
  ⟨false, none, .mov (.t 103), some 104⟩,
  ⟨false, (some (104, true)), .call 3 [], some 105⟩,
  ⟨false, none, .pick (.t 104) (.t 105) (.c (.bool false)), some 106⟩,
  ⟨false, none, .mov (.t 106), some 6⟩] (.ret)))))))))
def hn_4 : Hn := { M := { own := fun _ => false, rb := fun _ => none, ord := fun r => if r = 9 then [0, 1, 2, 3, 4, 7, 8, 9, 10, 11, 5, 6, 12, 13, 14, 15, 16, 17, 18, 20, 21, 22, 23, 24, 19, 25, 26] else if r = 11 then [0, 1, 2, 3, 4, 5, 6, 7, 8, 9, 10, 11, 14, 12, 13, 15, 16, 17, 18] else if r = 13 then [0, 3, 1, 2, 4, 5, 6, 7, 8, 9, 10, 11, 12, 13, 14, 15, 16, 17, 18, 19, 20, 21, 22, 23] else [] }, live := fun r => if r = 7 then [1, 2, 7, 8, 9] else [], ms := [] }
theorem kr_4 : rdy Try.prog hn_4 Try.f4 = some (rc_4, [.t 6], 107) := by kernel_rfl
theorem enA_4 : enterA Try.prog 4 = true := by kernel_rfl
theorem en_4 {args : List AV} {K : AV → ASt → Prop} {S : ASt} (hl : args.length ≤ 107) (h : wpR Try.prog rc_4 (bodyQ [.t 6] K) (argF 0 args) S) : ACalls Try.prog 4 args S K := ACalls.of Try.func4 enA_4 kr_4 hl h

/-- salvor/salvorlaw7.FixedPacks -/
def rc_5 : RC :=
  .reg [⟨false, none, .mov (.c (.bool false)), some 6⟩] (.reg [⟨false, none, .mov (.t 0), some 10⟩,
  ⟨false, none, .mov (.t 1), some 11⟩,
  ⟨false, none, .call 17 [.t 10, .t 11], some 12⟩,
  ⟨false, none, .not (.t 12), some 13⟩] (.cond (.t 13) (.reg [⟨false, none, .call 3 [], some 14⟩,
  ⟨false, none, .mov (.t 14), some 6⟩] (.ret)) (.nop) (.reg [⟨false, none, .mov (.t 0), some 15⟩,
  ⟨false, none, .call 9 [.t 15], some 16⟩,
  ⟨false, none, .mov (.t 0), some 17⟩,
  ⟨false, none, .call 18 [.t 17], some 18⟩,
  ⟨false, none, .build ([.int .i64 0, .int .i64 0, .sl .nil 0 []]) [(0, 1), (1, 1), (2, 1)] [(0, .t 18)], some 19⟩,
  ⟨false, none, .box (.t 19), some 20⟩,
  ⟨false, none, .mov (.t 16), some 7⟩,
  ⟨false, none, .mov (.t 20), some 8⟩] (.reg [⟨false, none, .mov (.t 7), some 21⟩,
  ⟨false, none, .eqp false (.t 21) (.c (.ptr none)), some 22⟩,
  ⟨false, none, .mov (.t 22), some 23⟩,
  ⟨false, (some (23, false)), .mov (.t 7), some 24⟩,
  ⟨false, (some (23, false)), .nck (.t 24), some 25⟩,
  ⟨false, (some (23, false)), .fld 0 (.t 25), some 26⟩,
  ⟨false, (some (23, false)), .call 16 [.t 26], some 27⟩,
  ⟨false, (some (23, false)), .mov (.t 0), some 28⟩,
  ⟨false, (some (23, false)), .call 18 [.t 28], some 29⟩,
  ⟨false, (some (23, false)), .bin .neq (.t 27) (.t 29), some 30⟩,
  ⟨false, none, .pick (.t 23) (.c (.bool true)) (.t 30), some 31⟩] (.cond (.t 31) (.reg [⟨false, none, .mov (.c (.bool false)), some 6⟩] (.ret)) (.nop) (.reg [⟨false, none, .mov (.c (.int .i64 0)), some 9⟩] (.block 0 (.loop [1, 2, 7, 8, 9] (.reg [⟨false, none, .mov (.t 9), some 32⟩,
  ⟨false, none, .mov (.t 1), some 33⟩,
  ⟨false, none, .len (.t 33), some 34⟩,
  ⟨false, none, .bin .lss (.t 32) (.t 34), some 35⟩] (.cond (.t 35) (.nop) (.exit 0) (.block 1 (.reg [⟨false, none, .mov (.t 7), some 38⟩,
  ⟨false, none, .mov (.t 1), some 39⟩,
  ⟨false, none, .mov (.t 9), some 40⟩,
  ⟨false, none, .idx 1 (.t 39) (.t 40), some 41⟩,
  ⟨false, none, .load (.t 41), some 42⟩,
  ⟨false, none, .mov (.t 8), some 45⟩,
  ⟨false, none, .mov (.t 1), some 46⟩,
  ⟨false, none, .mov (.t 9), some 47⟩,
  ⟨false, none, .idx 1 (.t 46) (.t 47), some 48⟩,
  ⟨false, none, .load (.t 48), some 49⟩,
  ⟨false, none, .call 11 [.t 38, .t 42], some 43⟩,
  ⟨true, none, .load (.t 48), some 49⟩,
  ⟨true, none, .idx 1 (.t 46) (.t 47), some 48⟩,
  ⟨false, none, .toStr (.t 43), some 44⟩,
  ⟨false, none, .call 21 [.t 45, .t 49], some 50⟩,
  ⟨true, none, .toStr (.t 43), some 44⟩,
  ⟨false, none, .toStr (.t 50), some 51⟩,
  ⟨false, none, .bin .neq (.t 44) (.t 51), some 52⟩,
  ⟨false, none, .mov (.t 52), some 53⟩,
  ⟨false, (some (53, false)), .mov (.t 7), some 54⟩,
  ⟨false, (some (53, false)), .nck (.t 54), some 55⟩,
  ⟨false, (some (53, false)), .fld 0 (.t 55), some 56⟩,
  ⟨false, (some (53, false)), .mov (.t 8), some 58⟩,
  ⟨false, (some (53, false)), .nck (.t 58), some 59⟩,
  ⟨false, (some (53, false)), .fld 2 (.t 59), some 60⟩,
  ⟨false, (some (53, false)), .load (.t 60), some 61⟩,
  ⟨false, (some (53, false)), .len (.t 61), some 62⟩,
  ⟨false, (some (53, false)), .call 13 [.t 56], some 57⟩,
  ⟨true, (some (53, false)), .load (.t 60), some 61⟩,
  ⟨true, (some (53, false)), .fld 2 (.t 59), some 60⟩,
  ⟨false, (some (53, false)), .bin .neq (.t 57) (.t 62), some 63⟩,
  ⟨false, none, .pick (.t 53) (.c (.bool true)) (.t 63), some 64⟩,
  ⟨false, none, .mov (.t 64), some 65⟩,
  ⟨false, (some (65, false)), .mov (.t 7), some 66⟩,
  ⟨false, (some (65, false)), .mov (.t 8), some 68⟩,
  ⟨false, (some (65, false)), .nck (.t 68), some 69⟩,
  ⟨false, (some (65, false)), .fld 1 (.t 69), some 70⟩,
  ⟨false, (some (65, false)), .load (.t 70), some 71⟩,
  ⟨false, (some (65, false)), .call 15 [.t 66], some 67⟩,
  ⟨true, (some (65, false)), .load (.t 70), some 71⟩,
  ⟨true, (some (65, false)), .fld 1 (.t 69), some 70⟩,
  ⟨false, (some (65, false)), .bin .neq (.t 67) (.t 71), some 72⟩,
  ⟨false, none, .pick (.t 65) (.c (.bool true)) (.t 72), some 73⟩] (.cond (.t 73) (.reg [⟨false, none, .mov (.c (.bool false)), some 6⟩] (.ret)) (.nop) (.reg [⟨false, none, .mov (.t 9), some 74⟩,
  ⟨false, none, .mov (.t 2), some 75⟩,
  ⟨false, none, .len (.t 75), some 76⟩,
  ⟨false, none, .bin .lss (.t 74) (.t 76), some 77⟩,
  ⟨false, none, .mov (.t 77), some 78⟩,
  ⟨false, (some (78, true)), .mov (.t 2), some 79⟩,
  ⟨false, (some (78, true)), .mov (.t 9), some 80⟩,
  ⟨false, (some (78, true)), .idx 1 (.t 79) (.t 80), some 81⟩,
  ⟨false, (some (78, true)), .load (.t 81), some 82⟩,
  ⟨false, none, .pick (.t 78) (.t 82) (.c (.bool false)), some 83⟩,
  ⟨false, none, .mov (.t 83), some 84⟩,
  ⟨false, (some (84, true)), .mov (.t 7), some 85⟩,
  ⟨false, (some (84, true)), .mov (.t 8), some 88⟩,
  ⟨false, (some (84, true)), .call 22 [.t 85], some 86⟩,
  ⟨false, (some (84, true)), .toStr (.t 86), some 87⟩,
  ⟨false, (some (84, true)), .call 23 [.t 88], some 89⟩,
  ⟨true, (some (84, true)), .toStr (.t 86), some 87⟩,
  ⟨false, (some (84, true)), .toStr (.t 89), some 90⟩,
  ⟨false, (some (84, true)), .bin .neq (.t 87) (.t 90), some 91⟩,
  ⟨false, none, .pick (.t 84) (.t 91) (.c (.bool false)), some 92⟩] (.cond (.t 92) (.reg [⟨false, none, .mov (.c (.bool false)), some 6⟩] (.ret)) (.nop) (.nop))))) (.reg [⟨false, none, .mov (.t 9), some 36⟩,
  ⟨false, none, .bin .add (.t 36) (.c (.int .i64 1)), some 37⟩,
  ⟨false, none, .mov (.t 37), some 9⟩] (.nop)))))) (.reg [⟨false, none, .mov (.t 7), some 93⟩,
  ⟨false, none, .mov (.t 8), some 96⟩,
  ⟨false, none, .call 22 [.t 93], some 94⟩,
  ⟨false, none, .toStr (.t 94), some 95⟩,
  ⟨false, none, .call 23 [.t 96], some 97⟩,
  ⟨true, none, .toStr (.t 94), some 95⟩,
  ⟨false, none, .toStr (.t 97), some 98⟩,
  ⟨false, none, .bin .eql (.t 95) (.t 98), some 99⟩,
  ⟨false, none, .mov (.t 99), some 100⟩,
  ⟨false, (some (100, true)), .mov (.t 7), some 101⟩,
  ⟨false, (some (100, true)), .nck (.t 101), some 102⟩,
  ⟨false, (some (100, true)), .fld 0 (.t 102), some 103⟩,
  ⟨false, (some (100, true)), .call 13 [.t 103], some 104⟩,
  ⟨false, (some (100, true)), .bin .eql (.t 104) (.c (.int .i64 0)), some 105⟩,
  ⟨false, none, .pick (.t 100) (.t 105) (.c (.bool false)), some 106⟩,
  ⟨false, none, .mov (.t 106), some 107⟩,
  ⟨false, (some (107, true)), .mov (.t 7), some 108⟩,
  ⟨false, (some (107, true)), .mov (.t 8), some 110⟩,
  ⟨false, (some (107, true)), .nck (.t 110), some 111⟩,
  ⟨false, (some (107, true)), .fld 1 (.t 111), some 112⟩,
  ⟨false, (some (107, true)), .load (.t 112), some 113⟩,
  ⟨false, (some (107, true)), .call 15 [.t 108], some 109⟩,
  ⟨true, (some (107, true)), .load (.t 112), some 113⟩,
  ⟨true, (some (107, true)), .fld 1 (.t 111), some 112⟩,
  ⟨false, (some (107, true)), .bin .eql (.t 109) (.t 113), some 114⟩,
  ⟨false, none, .pick (.t 107) (.t 114) (.c (.bool false)), some 115⟩,
  ⟨false, none, .mov (.t 115), some 116⟩,
  ⟨false, (some (116, true)), .mov (.t 7), some 117⟩,
  ⟨false, (some (116, true)), .call 22 [.t 117], some 118⟩,
  ⟨false, (some (116, true)), .len (.t 118), some 119⟩,
  ⟨false, (some (116, true)), .bin .eql (.t 119) (.c (.int .i64 0)), some 120⟩,
  ⟨false, none, .pick (.t 116) (.t 120) (.c (.bool false)), some 121⟩,
  ⟨false, none, .mov (.t 121), some 122⟩,
  ⟨false, (some (122, true)), .call 3 [], some 123⟩,
  ⟨false, none, .pick (.t 122) (.t 123) (.c (.bool false)), some 124⟩,
  ⟨false, none, .mov (.t 124), some 6⟩] (.ret)))))))))
def hn_5 : Hn := { M := { own := fun _ => false, rb := fun _ => none, ord := fun r => if r = 9 then [0, 1, 2, 3, 4, 7, 8, 9, 10, 11, 5, 6, 12, 13, 14, 15, 16, 17, 18, 20, 21, 22, 23, 24, 19, 25, 26, 27, 28, 30, 31, 32, 33, 29, 34, 35] else if r = 11 then [0, 1, 2, 3, 4, 5, 6, 7, 8, 9, 10, 11, 14, 12, 13, 15, 16, 17, 18] else if r = 13 then [0, 3, 1, 2, 4, 5, 6, 7, 8, 9, 10, 11, 12, 13, 14, 15, 17, 18, 19, 20, 16, 21, 22, 23, 24, 25, 26, 27, 28, 29, 30, 31, 32] else [] }, live := fun r => if r = 7 then [1, 2, 7, 8, 9] else [], ms := [] }
theorem kr_5 : rdy Try.prog hn_5 Try.f5 = some (rc_5, [.t 6], 125) := by kernel_rfl
theorem enA_5 : enterA Try.prog 5 = true := by kernel_rfl
theorem en_5 {args : List AV} {K : AV → ASt → Prop} {S : ASt} (hl : args.length ≤ 125) (h : wpR Try.prog rc_5 (bodyQ [.t 6] K) (argF 0 args) S) : ACalls Try.prog 5 args S K := ACalls.of Try.func5 enA_5 kr_5 hl h

/-- salvor/salvorlaw7.FixedPieces -/
def rc_6 : RC :=
  .reg [⟨false, none, .mov (.c (.bool false)), some 4⟩] (.reg [⟨false, none, .mov (.t 0), some 11⟩,
  ⟨false, none, .mov (.t 1), some 12⟩,
  ⟨false, none, .call 17 [.t 11, .t 12], some 13⟩,
  ⟨false, none, .not (.t 13), some 14⟩] (.cond (.t 14) (.reg [⟨false, none, .call 3 [], some 15⟩,
  ⟨false, none, .mov (.t 15), some 4⟩] (.ret)) (.nop) (.reg [⟨false, none, .mov (.c (.sl .nil 0 [])), some 5⟩] (.reg [⟨false, none, .mov (.c (.int .i64 0)), some 6⟩] (.block 0 (.loop [0, 1, 5, 6] (.reg [⟨false, none, .mov (.t 6), some 16⟩,
  ⟨false, none, .mov (.t 1), some 17⟩,
  ⟨false, none, .len (.t 17), some 18⟩,
  ⟨false, none, .bin .lss (.t 16) (.t 18), some 19⟩] (.cond (.t 19) (.nop) (.exit 0) (.block 1 (.reg [⟨false, none, .mov (.t 5), some 22⟩,
  ⟨false, none, .mov (.t 1), some 23⟩,
  ⟨false, none, .mov (.t 6), some 24⟩,
  ⟨false, none, .idx 1 (.t 23) (.t 24), some 25⟩,
  ⟨false, none, .load (.t 25), some 26⟩,
  ⟨false, none, .app 1 (.t 22) (.t 26), some 27⟩,
  ⟨false, none, .mov (.t 27), some 5⟩] (.nop)) (.reg [⟨false, none, .mov (.t 6), some 20⟩,
  ⟨false, none, .bin .add (.t 20) (.c (.int .i64 1)), some 21⟩,
  ⟨false, none, .mov (.t 21), some 6⟩] (.nop)))))) (.reg [⟨false, none, .mov (.t 0), some 29⟩,
  ⟨false, none, .mov (.t 1), some 30⟩,
  ⟨false, none, .call 24 [.t 29, .t 30], some 31⟩,
  ⟨false, none, .mov (.t 31), some 28⟩,
  ⟨false, none, .ext (.t 28) 0, some 32⟩,
  ⟨false, none, .ext (.t 28) 1, some 33⟩,
  ⟨false, none, .mov (.t 32), some 7⟩,
  ⟨false, none, .mov (.t 33), some 8⟩] (.reg [⟨false, none, .mov (.t 0), some 35⟩,
  ⟨false, none, .mov (.t 5), some 36⟩,
  ⟨false, none, .mkSl false 1 1 (.sl .nil 0 []) [(0, .t 36)], some 37⟩,
  ⟨false, none, .call 24 [.t 35, .t 37], some 38⟩,
  ⟨false, none, .mov (.t 38), some 34⟩,
  ⟨false, none, .ext (.t 34) 0, some 39⟩,
  ⟨false, none, .ext (.t 34) 1, some 40⟩,
  ⟨false, none, .mov (.t 39), some 9⟩,
  ⟨false, none, .mov (.t 40), some 10⟩] (.reg [⟨false, none, .mov (.t 7), some 41⟩,
  ⟨false, none, .mov (.t 9), some 42⟩,
  ⟨false, none, .bin .eql (.t 41) (.t 42), some 43⟩,
  ⟨false, none, .mov (.t 43), some 44⟩,
  ⟨false, (some (44, true)), .mov (.t 8), some 45⟩,
  ⟨false, (some (44, true)), .mov (.t 10), some 46⟩,
  ⟨false, (some (44, true)), .bin .eql (.t 45) (.t 46), some 47⟩,
  ⟨false, none, .pick (.t 44) (.t 47) (.c (.bool false)), some 48⟩,
  ⟨false, none, .mov (.t 48), some 49⟩,
  ⟨false, (some (49, true)), .mov (.t 0), some 50⟩,
  ⟨false, (some (49, true)), .mov (.t 1), some 51⟩,
  ⟨false, (some (49, true)), .call 25 [.t 50, .t 51], some 52⟩,
  ⟨false, (some (49, true)), .mov (.t 0), some 53⟩,
  ⟨false, (some (49, true)), .mov (.t 5), some 54⟩,
  ⟨false, (some (49, true)), .mkSl false 1 1 (.sl .nil 0 []) [(0, .t 54)], some 55⟩,
  ⟨false, (some (49, true)), .call 25 [.t 53, .t 55], some 56⟩,
  ⟨false, (some (49, true)), .bin .eql (.t 52) (.t 56), some 57⟩,
  ⟨false, none, .pick (.t 49) (.t 57) (.c (.bool false)), some 58⟩,
  ⟨false, none, .mov (.t 58), some 59⟩,
  ⟨false, (some (59, true)), .call 3 [], some 60⟩,
  ⟨false, none, .pick (.t 59) (.t 60) (.c (.bool false)), some 61⟩,
  ⟨false, none, .mov (.t 61), some 4⟩] (.ret)))))))))
def hn_6 : Hn := { M := { own := fun _ => false, rb := fun _ => none, ord := fun _ => [] }, live := fun r => if r = 5 then [0, 1, 5, 6] else [], ms := [] }
theorem kr_6 : rdy Try.prog hn_6 Try.f6 = some (rc_6, [.t 4], 62) := by kernel_rfl
theorem enA_6 : enterA Try.prog 6 = true := by kernel_rfl
theorem en_6 {args : List AV} {K : AV → ASt → Prop} {S : ASt} (hl : args.length ≤ 62) (h : wpR Try.prog rc_6 (bodyQ [.t 4] K) (argF 0 args) S) : ACalls Try.prog 6 args S K := ACalls.of Try.func6 enA_6 kr_6 hl h

/-- salvor/salvorlaw7.FixedBack -/
def rc_7 : RC :=
  .reg [⟨false, none, .mov (.c (.bool false)), some 4⟩] (.reg [⟨false, none, .mov (.t 0), some 12⟩,
  ⟨false, none, .bin .rem (.t 12) (.c (.int .u8 60)), some 13⟩,
  ⟨false, none, .toInt .i64 (.t 13), some 14⟩,
  ⟨false, none, .bin .add (.t 14) (.c (.int .i64 1)), some 15⟩,
  ⟨false, none, .mov (.t 15), some 5⟩] (.reg [⟨false, none, .mov (.t 1), some 16⟩,
  ⟨false, none, .len (.t 16), some 17⟩,
  ⟨false, none, .bin .gtr (.t 17) (.c (.int .i64 20)), some 18⟩] (.cond (.t 18) (.reg [⟨false, none, .call 3 [], some 19⟩,
  ⟨false, none, .mov (.t 19), some 4⟩] (.ret)) (.nop) (.reg [⟨false, none, .mov (.c (.str [])), some 6⟩] (.reg [⟨false, none, .mov (.c (.int .i64 0)), some 7⟩] (.block 0 (.loop [1, 5, 6, 7] (.reg [⟨false, none, .mov (.t 7), some 20⟩,
  ⟨false, none, .mov (.t 1), some 21⟩,
  ⟨false, none, .len (.t 21), some 22⟩,
  ⟨false, none, .bin .lss (.t 20) (.t 22), some 23⟩] (.cond (.t 23) (.nop) (.exit 0) (.block 1 (.reg [⟨false, none, .mov (.t 1), some 26⟩,
  ⟨false, none, .mov (.t 7), some 27⟩,
  ⟨false, none, .idx 1 (.t 26) (.t 27), some 28⟩,
  ⟨false, none, .load (.t 28), some 29⟩,
  ⟨false, none, .mov (.t 1), some 30⟩,
  ⟨false, none, .mov (.t 7), some 31⟩,
  ⟨false, none, .idx 1 (.t 30) (.t 31), some 32⟩,
  ⟨false, none, .load (.t 32), some 33⟩,
  ⟨false, none, .lenS (.t 33), some 34⟩,
  ⟨false, none, .mov (.t 5), some 35⟩,
  ⟨false, none, .min (.t 34) (.t 35), some 36⟩,
  ⟨false, none, .sliceS (.t 29) none (some (.t 36)), some 37⟩,
  ⟨false, none, .mov (.t 37), some 8⟩] (.reg [⟨false, none, .mov (.c (.int .i64 0)), some 9⟩] (.block 2 (.loop [1, 5, 6, 7, 8, 9] (.reg [⟨false, none, .mov (.t 9), some 38⟩,
  ⟨false, none, .mov (.t 8), some 39⟩,
  ⟨false, none, .lenS (.t 39), some 40⟩,
  ⟨false, none, .bin .lss (.t 38) (.t 40), some 41⟩] (.cond (.t 41) (.nop) (.exit 2) (.block 3 (.reg [⟨false, none, .mov (.t 8), some 44⟩,
  ⟨false, none, .mov (.t 9), some 45⟩,
  ⟨false, none, .ixS (.t 44) (.t 45), some 46⟩,
  ⟨false, none, .bin .eql (.t 46) (.c (.int .u8 10)), some 47⟩] (.cond (.t 47) (.reg [⟨false, none, .call 3 [], some 48⟩,
  ⟨false, none, .mov (.t 48), some 4⟩] (.ret)) (.nop) (.nop))) (.reg [⟨false, none, .mov (.t 9), some 42⟩,
  ⟨false, none, .bin .add (.t 42) (.c (.int .i64 1)), some 43⟩,
  ⟨false, none, .mov (.t 43), some 9⟩] (.nop)))))) (.reg [⟨false, none, .mov (.t 8), some 49⟩,
  ⟨false, none, .bin .neq (.t 49) (.c (.str [])), some 50⟩,
  ⟨false, none, .mov (.t 50), some 51⟩,
  ⟨false, (some (51, true)), .mov (.t 8), some 52⟩,
  ⟨false, (some (51, true)), .mov (.t 8), some 53⟩,
  ⟨false, (some (51, true)), .lenS (.t 53), some 54⟩,
  ⟨false, (some (51, true)), .bin .sub (.t 54) (.c (.int .i64 1)), some 55⟩,
  ⟨false, (some (51, true)), .ixS (.t 52) (.t 55), some 56⟩,
  ⟨false, (some (51, true)), .bin .eql (.t 56) (.c (.int .u8 32)), some 57⟩,
  ⟨false, none, .pick (.t 51) (.t 57) (.c (.bool false)), some 58⟩] (.cond (.t 58) (.reg [⟨false, none, .call 3 [], some 59⟩,
  ⟨false, none, .mov (.t 59), some 4⟩] (.ret)) (.nop) (.reg [⟨false, none, .mov (.t 6), some 60⟩,
  ⟨false, none, .mov (.t 8), some 61⟩,
  ⟨false, none, .bin .add (.t 60) (.t 61), some 62⟩,
  ⟨false, none, .bin .add (.t 62) (.c (.str [10])), some 63⟩,
  ⟨false, none, .mov (.t 63), some 6⟩] (.nop))))))) (.reg [⟨false, none, .mov (.t 7), some 24⟩,
  ⟨false, none, .bin .add (.t 24) (.c (.int .i64 1)), some 25⟩,
  ⟨false, none, .mov (.t 25), some 7⟩] (.nop)))))) (.reg [⟨false, none, .mov (.t 5), some 65⟩,
  ⟨false, none, .mov (.t 6), some 66⟩,
  ⟨false, none, .toSl (.t 66), some 67⟩,
  ⟨false, none, .mkSl false 1 1 (.sl .nil 0 []) [(0, .t 67)], some 68⟩,
  ⟨false, none, .call 24 [.t 65, .t 68], some 69⟩,
  ⟨false, none, .mov (.t 69), some 64⟩,
  ⟨false, none, .ext (.t 64) 0, some 70⟩,
  ⟨false, none, .ext (.t 64) 1, some 71⟩,
  ⟨false, none, .mov (.t 70), some 10⟩,
  ⟨false, none, .mov (.t 71), some 11⟩] (.reg [⟨false, none, .mov (.t 10), some 72⟩,
  ⟨false, none, .lenS (.t 72), some 73⟩,
  ⟨false, none, .mov (.t 5), some 74⟩,
  ⟨false, none, .mov (.t 1), some 75⟩,
  ⟨false, none, .len (.t 75), some 76⟩,
  ⟨false, none, .bin .mul (.t 74) (.t 76), some 77⟩,
  ⟨false, none, .bin .eql (.t 73) (.t 77), some 78⟩,
  ⟨false, none, .mov (.t 78), some 79⟩,
  ⟨false, (some (79, true)), .mov (.t 11), some 80⟩,
  ⟨false, (some (79, true)), .bin .eql (.t 80) (.c (.int .i64 0)), some 81⟩,
  ⟨false, none, .pick (.t 79) (.t 81) (.c (.bool false)), some 82⟩,
  ⟨false, none, .mov (.t 82), some 83⟩,
  ⟨false, (some (83, true)), .mov (.t 5), some 84⟩,
  ⟨false, (some (83, true)), .mov (.t 10), some 85⟩,
  ⟨false, (some (83, true)), .toSl (.t 85), some 86⟩,
  ⟨false, (some (83, true)), .mkSl false 1 1 (.sl .nil 0 []) [(0, .t 86)], some 87⟩,
  ⟨false, (some (83, true)), .call 25 [.t 84, .t 87], some 88⟩,
  ⟨false, (some (83, true)), .mov (.t 6), some 89⟩,
  ⟨false, (some (83, true)), .bin .eql (.t 88) (.t 89), some 90⟩,
  ⟨false, none, .pick (.t 83) (.t 90) (.c (.bool false)), some 91⟩,
  ⟨false, none, .mov (.t 91), some 92⟩,
  ⟨false, (some (92, true)), .call 3 [], some 93⟩,
  ⟨false, none, .pick (.t 92) (.t 93) (.c (.bool false)), some 94⟩,
  ⟨false, none, .mov (.t 94), some 4⟩] (.ret)))))))))
def hn_7 : Hn := { M := { own := fun _ => false, rb := fun _ => none, ord := fun r => if r = 8 then [0, 1, 2, 3, 4, 5, 6, 7, 8, 9, 10, 11, 12] else [] }, live := fun r => if r = 6 then [1, 5, 6, 7] else if r = 10 then [1, 5, 6, 7, 8, 9] else [], ms := [] }
theorem kr_7 : rdy Try.prog hn_7 Try.f7 = some (rc_7, [.t 4], 95) := by kernel_rfl
theorem enA_7 : enterA Try.prog 7 = true := by kernel_rfl
theorem en_7 {args : List AV} {K : AV → ASt → Prop} {S : ASt} (hl : args.length ≤ 95) (h : wpR Try.prog rc_7 (bodyQ [.t 4] K) (argF 0 args) S) : ACalls Try.prog 7 args S K := ACalls.of Try.func7 enA_7 kr_7 hl h

/-- salvor/salvorlaw7.FixedLong -/
def rc_8 : RC :=
  .reg [⟨false, none, .mov (.c (.bool false)), some 6⟩] (.reg [⟨false, none, .mov (.t 0), some 16⟩,
  ⟨false, none, .bin .rem (.t 16) (.c (.int .u8 40)), some 17⟩,
  ⟨false, none, .toInt .i64 (.t 17), some 18⟩,
  ⟨false, none, .bin .add (.t 18) (.c (.int .i64 1)), some 19⟩,
  ⟨false, none, .mov (.t 19), some 7⟩] (.reg [⟨false, none, .mov (.t 1), some 20⟩,
  ⟨false, none, .len (.t 20), some 21⟩,
  ⟨false, none, .bin .gtr (.t 21) (.c (.int .i64 20)), some 22⟩,
  ⟨false, none, .mov (.t 22), some 23⟩,
  ⟨false, (some (23, false)), .mov (.t 2), some 24⟩,
  ⟨false, (some (23, false)), .bin .eql (.t 24) (.c (.int .u8 10)), some 25⟩,
  ⟨false, none, .pick (.t 23) (.c (.bool true)) (.t 25), some 26⟩] (.cond (.t 26) (.reg [⟨false, none, .call 3 [], some 27⟩,
  ⟨false, none, .mov (.t 27), some 6⟩] (.ret)) (.nop) (.reg [⟨false, none, .mov (.c (.str [])), some 8⟩,
  ⟨false, none, .mov (.c (.int .i64 0)), some 9⟩,
  ⟨false, none, .mov (.c (.str [])), some 10⟩] (.reg [⟨false, none, .mov (.c (.int .i64 0)), some 11⟩] (.block 0 (.loop [1, 2, 7, 8, 9, 10, 11] (.reg [⟨false, none, .mov (.t 11), some 28⟩,
  ⟨false, none, .mov (.t 1), some 29⟩,
  ⟨false, none, .len (.t 29), some 30⟩,
  ⟨false, none, .bin .lss (.t 28) (.t 30), some 31⟩] (.cond (.t 31) (.nop) (.exit 0) (.block 1 (.reg [⟨false, none, .mov (.t 1), some 34⟩,
  ⟨false, none, .mov (.t 11), some 35⟩,
  ⟨false, none, .idx 1 (.t 34) (.t 35), some 36⟩,
  ⟨false, none, .load (.t 36), some 37⟩,
  ⟨false, none, .bin .rem (.t 37) (.c (.int .u8 100)), some 38⟩,
  ⟨false, none, .toInt .i64 (.t 38), some 39⟩,
  ⟨false, none, .mov (.t 39), some 12⟩] (.reg [⟨false, none, .mov (.c (.int .i64 0)), some 13⟩] (.block 2 (.loop [1, 2, 7, 8, 9, 10, 11, 12, 13] (.reg [⟨false, none, .mov (.t 13), some 40⟩,
  ⟨false, none, .mov (.t 12), some 41⟩,
  ⟨false, none, .mov (.t 7), some 42⟩,
  ⟨false, none, .max (.t 41) (.t 42), some 43⟩,
  ⟨false, none, .bin .lss (.t 40) (.t 43), some 44⟩] (.cond (.t 44) (.nop) (.exit 2) (.block 3 (.reg [⟨false, none, .mov (.t 13), some 47⟩,
  ⟨false, none, .mov (.t 12), some 48⟩,
  ⟨false, none, .bin .lss (.t 47) (.t 48), some 49⟩] (.cond (.t 49) (.reg [⟨false, none, .mov (.t 8), some 50⟩,
  ⟨false, none, .mov (.t 2), some 51⟩,
  ⟨false, none, .mkSl false 1 1 (.int .u8 0) [(0, .t 51)], some 52⟩,
  ⟨false, none, .toStr (.t 52), some 53⟩,
  ⟨false, none, .bin .add (.t 50) (.t 53), some 54⟩,
  ⟨false, none, .mov (.t 54), some 8⟩] (.nop)) (.nop) (.reg [⟨false, none, .mov (.t 13), some 55⟩,
  ⟨false, none, .mov (.t 7), some 56⟩,
  ⟨false, none, .bin .lss (.t 55) (.t 56), some 57⟩,
  ⟨false, none, .mov (.t 57), some 58⟩,
  ⟨false, (some (58, true)), .mov (.t 13), some 59⟩,
  ⟨false, (some (58, true)), .mov (.t 12), some 60⟩,
  ⟨false, (some (58, true)), .bin .lss (.t 59) (.t 60), some 61⟩,
  ⟨false, none, .pick (.t 58) (.t 61) (.c (.bool false)), some 62⟩] (.cond (.t 62) (.reg [⟨false, none, .mov (.t 10), some 63⟩,
  ⟨false, none, .mov (.t 2), some 64⟩,
  ⟨false, none, .mkSl false 1 1 (.int .u8 0) [(0, .t 64)], some 65⟩,
  ⟨false, none, .toStr (.t 65), some 66⟩,
  ⟨false, none, .bin .add (.t 63) (.t 66), some 67⟩,
  ⟨false, none, .mov (.t 67), some 10⟩] (.nop)) (.reg [⟨false, none, .mov (.t 13), some 68⟩,
  ⟨false, none, .mov (.t 7), some 69⟩,
  ⟨false, none, .bin .lss (.t 68) (.t 69), some 70⟩] (.cond (.t 70) (.reg [⟨false, none, .mov (.t 10), some 71⟩,
  ⟨false, none, .bin .add (.t 71) (.c (.str [32])), some 72⟩,
  ⟨false, none, .mov (.t 72), some 10⟩] (.nop)) (.nop) (.nop))) (.nop))))) (.reg [⟨false, none, .mov (.t 13), some 45⟩,
  ⟨false, none, .bin .add (.t 45) (.c (.int .i64 1)), some 46⟩,
  ⟨false, none, .mov (.t 46), some 13⟩] (.nop)))))) (.reg [⟨false, none, .mov (.t 12), some 73⟩,
  ⟨false, none, .mov (.t 7), some 74⟩,
  ⟨false, none, .bin .gtr (.t 73) (.t 74), some 75⟩] (.cond (.t 75) (.reg [⟨false, none, .mov (.t 9), some 76⟩,
  ⟨false, none, .bin .add (.t 76) (.c (.int .i64 1)), some 77⟩,
  ⟨false, none, .mov (.t 77), some 9⟩] (.nop)) (.nop) (.reg [⟨false, none, .mov (.t 8), some 78⟩,
  ⟨false, none, .bin .add (.t 78) (.c (.str [10])), some 79⟩,
  ⟨false, none, .mov (.t 79), some 8⟩] (.nop))))))) (.reg [⟨false, none, .mov (.t 11), some 32⟩,
  ⟨false, none, .bin .add (.t 32) (.c (.int .i64 1)), some 33⟩,
  ⟨false, none, .mov (.t 33), some 11⟩] (.nop)))))) (.reg [⟨false, none, .mov (.t 7), some 81⟩,
  ⟨false, none, .mov (.t 8), some 82⟩,
  ⟨false, none, .toSl (.t 82), some 83⟩,
  ⟨false, none, .mkSl false 1 1 (.sl .nil 0 []) [(0, .t 83)], some 84⟩,
  ⟨false, none, .call 24 [.t 81, .t 84], some 85⟩,
  ⟨false, none, .mov (.t 85), some 80⟩,
  ⟨false, none, .ext (.t 80) 0, some 86⟩,
  ⟨false, none, .ext (.t 80) 1, some 87⟩,
  ⟨false, none, .mov (.t 86), some 14⟩,
  ⟨false, none, .mov (.t 87), some 15⟩] (.reg [⟨false, none, .mov (.t 14), some 88⟩,
  ⟨false, none, .mov (.t 10), some 89⟩,
  ⟨false, none, .bin .eql (.t 88) (.t 89), some 90⟩,
  ⟨false, none, .mov (.t 90), some 91⟩,
  ⟨false, (some (91, true)), .mov (.t 15), some 92⟩,
  ⟨false, (some (91, true)), .mov (.t 9), some 93⟩,
  ⟨false, (some (91, true)), .bin .eql (.t 92) (.t 93), some 94⟩,
  ⟨false, none, .pick (.t 91) (.t 94) (.c (.bool false)), some 95⟩,
  ⟨false, none, .mov (.t 95), some 96⟩,
  ⟨false, (some (96, true)), .call 3 [], some 97⟩,
  ⟨false, none, .pick (.t 96) (.t 97) (.c (.bool false)), some 98⟩,
  ⟨false, none, .mov (.t 98), some 6⟩] (.ret)))))))))
def hn_8 : Hn := { M := { own := fun _ => false, rb := fun _ => none, ord := fun _ => [] }, live := fun r => if r = 6 then [1, 2, 7, 8, 9, 10, 11] else if r = 10 then [1, 2, 7, 8, 9, 10, 11, 12, 13] else [], ms := [] }
theorem kr_8 : rdy Try.prog hn_8 Try.f8 = some (rc_8, [.t 6], 99) := by kernel_rfl
theorem enA_8 : enterA Try.prog 8 = true := by kernel_rfl
theorem en_8 {args : List AV} {K : AV → ASt → Prop} {S : ASt} (hl : args.length ≤ 99) (h : wpR Try.prog rc_8 (bodyQ [.t 6] K) (argF 0 args) S) : ACalls Try.prog 8 args S K := ACalls.of Try.func8 enA_8 kr_8 hl h

/-- salvor/fixed.NewPacker -/
def rc_9 : RC :=
  .reg [⟨false, none, .mov (.c (.ptr none)), some 2⟩] (.reg [⟨false, none, .mov (.t 0), some 3⟩,
  ⟨false, none, .call 26 [.t 3], some 4⟩,
  ⟨false, none, .build ([.int .i64 0, .sl .nil 0 [], .int .i64 0, .int .i64 0]) [(0, 3), (3, 1)] [(0, .t 4)], some 5⟩,
  ⟨false, none, .box (.t 5), some 6⟩,
  ⟨false, none, .mov (.t 6), some 2⟩] (.ret))
def hn_9 : Hn := { M := { own := fun _ => false, rb := fun _ => none, ord := fun _ => [] }, live := fun _ => [], ms := [] }
theorem kr_9 : rdy Try.prog hn_9 Try.f9 = some (rc_9, [.t 2], 7) := by kernel_rfl
theorem enA_9 : enterA Try.prog 9 = true := by kernel_rfl
theorem en_9 {args : List AV} {K : AV → ASt → Prop} {S : ASt} (hl : args.length ≤ 7) (h : wpR Try.prog rc_9 (bodyQ [.t 2] K) (argF 0 args) S) : ACalls Try.prog 9 args S K := ACalls.of Try.func9 enA_9 kr_9 hl h

/-- salvor/fixed.NewUnpacker -/
def rc_10 : RC :=
  .reg [⟨false, none, .mov (.c (.ptr none)), some 2⟩] (.reg [⟨false, none, .mov (.t 0), some 3⟩,
  ⟨false, none, .call 26 [.t 3], some 4⟩,
  ⟨false, none, .build ([.int .i64 0, .sl .nil 0 [], .int .i64 0]) [(0, 3)] [(0, .t 4)], some 5⟩,
  ⟨false, none, .box (.t 5), some 6⟩,
  ⟨false, none, .mov (.t 6), some 2⟩] (.ret))
def hn_10 : Hn := { M := { own := fun _ => false, rb := fun _ => none, ord := fun _ => [] }, live := fun _ => [], ms := [] }
theorem kr_10 : rdy Try.prog hn_10 Try.f10 = some (rc_10, [.t 2], 7) := by kernel_rfl
theorem enA_10 : enterA Try.prog 10 = true := by kernel_rfl
theorem en_10 {args : List AV} {K : AV → ASt → Prop} {S : ASt} (hl : args.length ≤ 7) (h : wpR Try.prog rc_10 (bodyQ [.t 2] K) (argF 0 args) S) : ACalls Try.prog 10 args S K := ACalls.of Try.func10 enA_10 kr_10 hl h

/-- (*salvor/fixed.Packer).Put -/
def rc_11 : RC :=
  .reg [⟨false, none, .mov (.c (.sl .nil 0 [])), some 4⟩] (.reg [⟨false, none, .mov (.c (.sl .nil 0 [])), some 5⟩] (.reg [⟨false, none, .mov (.t 1), some 8⟩,
  ⟨false, none, .len (.t 8), some 9⟩,
  ⟨false, none, .mov (.c (.int .i64 0)), some 10⟩] (.block 0 (.loop [0, 5, 8, 9, 10] (.reg [⟨false, none, .bin .lss (.t 10) (.t 9), some 11⟩] (.cond (.t 11) (.nop) (.exit 0) (.block 1 (.reg [⟨false, none, .idx 1 (.t 8) (.t 10), some 12⟩,
  ⟨false, none, .load (.t 12), some 13⟩,
  ⟨false, none, .mov (.t 13), some 7⟩] (.reg [⟨false, none, .mov (.t 7), some 14⟩,
  ⟨false, none, .bin .eql (.t 14) (.c (.int .u8 10)), some 15⟩] (.cond (.t 15) (.reg [⟨false, none, .mov (.t 5), some 16⟩,
  ⟨false, none, .mov (.t 0), some 17⟩,
  ⟨false, none, .call 27 [.t 17], some 18⟩,
  ⟨false, none, .app 1 (.t 16) (.t 18), some 19⟩,
  ⟨false, none, .mov (.t 19), some 5⟩] (.nop)) (.reg [⟨false, none, .mov (.t 0), some 20⟩,
  ⟨false, none, .nck (.t 20), some 21⟩,
  ⟨false, none, .fld 0 (.t 21), some 22⟩,
  ⟨false, none, .mov (.t 7), some 23⟩,
  ⟨false, none, .call 28 [.t 22, .t 23], some 24⟩] (.nop)) (.nop)))) (.reg [⟨false, none, .bin .add (.t 10) (.c (.int .i64 1)), some 25⟩,
  ⟨false, none, .mov (.t 25), some 10⟩] (.nop)))))) (.reg [⟨false, none, .mov (.t 5), some 26⟩,
  ⟨false, none, .mov (.t 26), some 4⟩] (.ret)))))
def hn_11 : Hn := { M := { own := fun _ => false, rb := fun _ => none, ord := fun _ => [] }, live := fun r => if r = 3 then [0, 5, 8, 9, 10] else [], ms := [] }
theorem kr_11 : rdy Try.prog hn_11 Try.f11 = some (rc_11, [.t 4], 27) := by kernel_rfl
theorem enA_11 : enterA Try.prog 11 = true := by kernel_rfl
theorem en_11 {args : List AV} {K : AV → ASt → Prop} {S : ASt} (hl : args.length ≤ 27) (h : wpR Try.prog rc_11 (bodyQ [.t 4] K) (argF 0 args) S) : ACalls Try.prog 11 args S K := ACalls.of Try.func11 enA_11 kr_11 hl h

/-- (*salvor/fixed.Unpacker).Put -/
def rc_12 : RC :=
  .reg [⟨false, none, .mov (.c (.sl .nil 0 [])), some 4⟩] (.reg [⟨false, none, .mov (.c (.sl .nil 0 [])), some 5⟩] (.reg [⟨false, none, .mov (.t 1), some 8⟩,
  ⟨false, none, .len (.t 8), some 9⟩,
  ⟨false, none, .mov (.c (.int .i64 0)), some 10⟩] (.block 0 (.loop [0, 5, 8, 9, 10] (.reg [⟨false, none, .bin .lss (.t 10) (.t 9), some 11⟩] (.cond (.t 11) (.nop) (.exit 0) (.block 1 (.reg [⟨false, none, .idx 1 (.t 8) (.t 10), some 12⟩,
  ⟨false, none, .load (.t 12), some 13⟩,
  ⟨false, none, .mov (.t 13), some 7⟩] (.reg [⟨false, none, .mov (.t 0), some 14⟩,
  ⟨false, none, .nck (.t 14), some 15⟩,
  ⟨false, none, .fld 0 (.t 15), some 16⟩,
  ⟨false, none, .mov (.t 7), some 17⟩,
  ⟨false, none, .call 28 [.t 16, .t 17], some 18⟩] (.reg [⟨false, none, .mov (.t 0), some 19⟩,
  ⟨false, none, .nck (.t 19), some 20⟩,
  ⟨false, none, .fld 0 (.t 20), some 21⟩,
  ⟨false, none, .fld 2 (.t 21), some 22⟩,
  ⟨false, none, .load (.t 22), some 23⟩,
  ⟨false, none, .mov (.t 0), some 24⟩,
  ⟨false, none, .nck (.t 24), some 25⟩,
  ⟨false, none, .fld 0 (.t 25), some 26⟩,
  ⟨false, none, .fld 0 (.t 26), some 27⟩,
  ⟨false, none, .load (.t 27), some 28⟩,
  ⟨false, none, .bin .eql (.t 23) (.t 28), some 29⟩] (.cond (.t 29) (.reg [⟨false, none, .mov (.t 5), some 30⟩,
  ⟨false, none, .mov (.t 0), some 31⟩,
  ⟨false, none, .call 29 [.t 31], some 32⟩,
  ⟨false, none, .app 1 (.t 30) (.t 32), some 33⟩,
  ⟨false, none, .mov (.t 33), some 5⟩] (.nop)) (.nop) (.nop))))) (.reg [⟨false, none, .bin .add (.t 10) (.c (.int .i64 1)), some 34⟩,
  ⟨false, none, .mov (.t 34), some 10⟩] (.nop)))))) (.reg [⟨false, none, .mov (.t 5), some 35⟩,
  ⟨false, none, .mov (.t 35), some 4⟩] (.ret)))))
def hn_12 : Hn := { M := { own := fun _ => false, rb := fun _ => none, ord := fun r => if r = 6 then [0, 1, 2, 3, 4, 5, 6, 7, 8, 9, 10] else [] }, live := fun r => if r = 3 then [0, 5, 8, 9, 10] else [], ms := [] }
theorem kr_12 : rdy Try.prog hn_12 Try.f12 = some (rc_12, [.t 4], 36) := by kernel_rfl
theorem enA_12 : enterA Try.prog 12 = true := by kernel_rfl
theorem en_12 {args : List AV} {K : AV → ASt → Prop} {S : ASt} (hl : args.length ≤ 36) (h : wpR Try.prog rc_12 (bodyQ [.t 4] K) (argF 0 args) S) : ACalls Try.prog 12 args S K := ACalls.of Try.func12 enA_12 kr_12 hl h

/-- (*salvor/fixed.Rec).Held -/
def rc_13 : RC :=
  .reg [⟨false, none, .mov (.c (.int .i64 0)), some 2⟩] (.reg [⟨false, none, .mov (.t 0), some 3⟩,
  ⟨false, none, .nck (.t 3), some 4⟩,
  ⟨false, none, .fld 2 (.t 4), some 5⟩,
  ⟨false, none, .load (.t 5), some 6⟩,
  ⟨false, none, .mov (.t 6), some 2⟩] (.ret))
def hn_13 : Hn := { M := { own := fun _ => false, rb := fun _ => none, ord := fun _ => [] }, live := fun _ => [], ms := [] }
theorem kr_13 : rdy Try.prog hn_13 Try.f13 = some (rc_13, [.t 2], 7) := by kernel_rfl
theorem enA_13 : enterA Try.prog 13 = true := by kernel_rfl
theorem en_13 {args : List AV} {K : AV → ASt → Prop} {S : ASt} (hl : args.length ≤ 7) (h : wpR Try.prog rc_13 (bodyQ [.t 2] K) (argF 0 args) S) : ACalls Try.prog 13 args S K := ACalls.of Try.func13 enA_13 kr_13 hl h

/-- (*salvor/fixed.Unpacker).End -/
def rc_14 : RC :=
  .reg [⟨false, none, .mov (.c (.sl .nil 0 [])), some 2⟩] (.reg [⟨false, none, .mov (.t 0), some 3⟩,
  ⟨false, none, .nck (.t 3), some 4⟩,
  ⟨false, none, .fld 0 (.t 4), some 5⟩,
  ⟨false, none, .fld 2 (.t 5), some 6⟩,
  ⟨false, none, .load (.t 6), some 7⟩,
  ⟨false, none, .bin .eql (.t 7) (.c (.int .i64 0)), some 8⟩] (.cond (.t 8) (.reg [⟨false, none, .mov (.c (.sl .nil 0 [])), some 2⟩] (.ret)) (.nop) (.reg [⟨false, none, .mov (.t 0), some 9⟩,
  ⟨false, none, .call 29 [.t 9], some 10⟩,
  ⟨false, none, .mov (.t 10), some 2⟩] (.ret))))
def hn_14 : Hn := { M := { own := fun _ => false, rb := fun _ => none, ord := fun _ => [] }, live := fun _ => [], ms := [] }
theorem kr_14 : rdy Try.prog hn_14 Try.f14 = some (rc_14, [.t 2], 11) := by kernel_rfl
theorem enA_14 : enterA Try.prog 14 = true := by kernel_rfl
theorem en_14 {args : List AV} {K : AV → ASt → Prop} {S : ASt} (hl : args.length ≤ 11) (h : wpR Try.prog rc_14 (bodyQ [.t 2] K) (argF 0 args) S) : ACalls Try.prog 14 args S K := ACalls.of Try.func14 enA_14 kr_14 hl h

/-- (*salvor/fixed.Packer).Cut -/
def rc_15 : RC :=
  .reg [⟨false, none, .mov (.c (.int .i64 0)), some 2⟩] (.reg [⟨false, none, .mov (.t 0), some 3⟩,
  ⟨false, none, .nck (.t 3), some 4⟩,
  ⟨false, none, .fld 3 (.t 4), some 5⟩,
  ⟨false, none, .load (.t 5), some 6⟩,
  ⟨false, none, .mov (.t 6), some 2⟩] (.ret))
def hn_15 : Hn := { M := { own := fun _ => false, rb := fun _ => none, ord := fun _ => [] }, live := fun _ => [], ms := [] }
theorem kr_15 : rdy Try.prog hn_15 Try.f15 = some (rc_15, [.t 2], 7) := by kernel_rfl
theorem enA_15 : enterA Try.prog 15 = true := by kernel_rfl
theorem en_15 {args : List AV} {K : AV → ASt → Prop} {S : ASt} (hl : args.length ≤ 7) (h : wpR Try.prog rc_15 (bodyQ [.t 2] K) (argF 0 args) S) : ACalls Try.prog 15 args S K := ACalls.of Try.func15 enA_15 kr_15 hl h

/-- (*salvor/fixed.Rec).Cbs -/
def rc_16 : RC :=
  .reg [⟨false, none, .mov (.c (.int .i64 0)), some 2⟩] (.reg [⟨false, none, .mov (.t 0), some 3⟩,
  ⟨false, none, .nck (.t 3), some 4⟩,
  ⟨false, none, .fld 0 (.t 4), some 5⟩,
  ⟨false, none, .load (.t 5), some 6⟩,
  ⟨false, none, .mov (.t 6), some 2⟩] (.ret))
def hn_16 : Hn := { M := { own := fun _ => false, rb := fun _ => none, ord := fun _ => [] }, live := fun _ => [], ms := [] }
theorem kr_16 : rdy Try.prog hn_16 Try.f16 = some (rc_16, [.t 2], 7) := by kernel_rfl
theorem enA_16 : enterA Try.prog 16 = true := by kernel_rfl
theorem en_16 {args : List AV} {K : AV → ASt → Prop} {S : ASt} (hl : args.length ≤ 7) (h : wpR Try.prog rc_16 (bodyQ [.t 2] K) (argF 0 args) S) : ACalls Try.prog 16 args S K := ACalls.of Try.func16 enA_16 kr_16 hl h

/-- salvor/salvorlaw7.few -/
def rc_17 : RC :=
  .reg [⟨false, none, .mov (.c (.bool false)), some 4⟩] (.reg [⟨false, none, .mov (.c (.int .i64 0)), some 5⟩] (.reg [⟨false, none, .mov (.c (.int .i64 0)), some 6⟩] (.block 0 (.loop [0, 1, 5, 6] (.reg [⟨false, none, .mov (.t 6), some 7⟩,
  ⟨false, none, .mov (.t 1), some 8⟩,
  ⟨false, none, .len (.t 8), some 9⟩,
  ⟨false, none, .bin .lss (.t 7) (.t 9), some 10⟩,
  ⟨false, none, .mov (.t 10), some 11⟩,
  ⟨false, (some (11, true)), .mov (.t 6), some 12⟩,
  ⟨false, (some (11, true)), .bin .lss (.t 12) (.c (.int .i64 60)), some 13⟩,
  ⟨false, none, .pick (.t 11) (.t 13) (.c (.bool false)), some 14⟩] (.cond (.t 14) (.nop) (.exit 0) (.block 1 (.reg [⟨false, none, .mov (.t 1), some 17⟩,
  ⟨false, none, .mov (.t 6), some 18⟩,
  ⟨false, none, .idx 1 (.t 17) (.t 18), some 19⟩,
  ⟨false, none, .load (.t 19), some 20⟩,
  ⟨false, none, .len (.t 20), some 21⟩,
  ⟨false, none, .bin .gtr (.t 21) (.c (.int .i64 400)), some 22⟩] (.cond (.t 22) (.reg [⟨false, none, .mov (.c (.bool false)), some 4⟩] (.ret)) (.nop) (.reg [⟨false, none, .mov (.t 5), some 23⟩,
  ⟨false, none, .mov (.t 1), some 24⟩,
  ⟨false, none, .mov (.t 6), some 25⟩,
  ⟨false, none, .idx 1 (.t 24) (.t 25), some 26⟩,
  ⟨false, none, .load (.t 26), some 27⟩,
  ⟨false, none, .len (.t 27), some 28⟩,
  ⟨false, none, .bin .add (.t 23) (.t 28), some 29⟩,
  ⟨false, none, .mov (.t 29), some 5⟩] (.nop)))) (.reg [⟨false, none, .mov (.t 6), some 15⟩,
  ⟨false, none, .bin .add (.t 15) (.c (.int .i64 1)), some 16⟩,
  ⟨false, none, .mov (.t 16), some 6⟩] (.nop)))))) (.reg [⟨false, none, .mov (.t 1), some 30⟩,
  ⟨false, none, .len (.t 30), some 31⟩,
  ⟨false, none, .bin .leq (.t 31) (.c (.int .i64 30)), some 32⟩,
  ⟨false, none, .mov (.t 32), some 33⟩,
  ⟨false, (some (33, true)), .mov (.t 5), some 34⟩,
  ⟨false, (some (33, true)), .bin .leq (.t 34) (.c (.int .i64 400)), some 35⟩,
  ⟨false, none, .pick (.t 33) (.t 35) (.c (.bool false)), some 36⟩,
  ⟨false, none, .mov (.t 36), some 37⟩,
  ⟨false, (some (37, true)), .mov (.t 0), some 38⟩,
  ⟨false, (some (37, true)), .bin .leq (.t 38) (.c (.int .i64 600)), some 39⟩,
  ⟨false, (some (37, true)), .mov (.t 39), some 40⟩,
  ⟨false, (some (40, false)), .mov (.t 5), some 41⟩,
  ⟨false, (some (40, false)), .bin .leq (.t 41) (.c (.int .i64 40)), some 42⟩,
  ⟨false, (some (37, true)), .pick (.t 40) (.c (.bool true)) (.t 42), some 43⟩,
  ⟨false, none, .pick (.t 37) (.t 43) (.c (.bool false)), some 44⟩,
  ⟨false, none, .mov (.t 44), some 4⟩] (.ret)))))
def hn_17 : Hn := { M := { own := fun _ => false, rb := fun _ => none, ord := fun _ => [] }, live := fun r => if r = 3 then [0, 1, 5, 6] else [], ms := [] }
theorem kr_17 : rdy Try.prog hn_17 Try.f17 = some (rc_17, [.t 4], 45) := by kernel_rfl
theorem enA_17 : enterA Try.prog 17 = true := by kernel_rfl
theorem en_17 {args : List AV} {K : AV → ASt → Prop} {S : ASt} (hl : args.length ≤ 45) (h : wpR Try.prog rc_17 (bodyQ [.t 4] K) (argF 0 args) S) : ACalls Try.prog 17 args S K := ACalls.of Try.func17 enA_17 kr_17 hl h

/-- salvor/salvorref6.Held -/
def rc_18 : RC :=
  .reg [⟨false, none, .mov (.c (.int .i64 0)), some 2⟩] (.reg [⟨false, none, .mov (.t 0), some 3⟩,
  ⟨false, none, .max (.t 3) (.c (.int .i64 1)), some 4⟩,
  ⟨false, none, .min (.t 4) (.c (.int .i64 4096)), some 5⟩,
  ⟨false, none, .mov (.t 5), some 2⟩] (.ret))
def hn_18 : Hn := { M := { own := fun _ => false, rb := fun _ => none, ord := fun _ => [] }, live := fun _ => [], ms := [] }
theorem kr_18 : rdy Try.prog hn_18 Try.f18 = some (rc_18, [.t 2], 6) := by kernel_rfl
theorem enA_18 : enterA Try.prog 18 = true := by kernel_rfl
theorem en_18 {args : List AV} {K : AV → ASt → Prop} {S : ASt} (hl : args.length ≤ 6) (h : wpR Try.prog rc_18 (bodyQ [.t 2] K) (argF 0 args) S) : ACalls Try.prog 18 args S K := ACalls.of Try.func18 enA_18 kr_18 hl h

/-- (*salvor/salvorref6.Unpacker).Put -/
def rc_19 : RC :=
  .reg [⟨false, none, .mov (.c (.sl .nil 0 [])), some 4⟩] (.reg [⟨false, none, .mov (.c (.sl .nil 0 [])), some 5⟩] (.reg [⟨false, none, .mov (.c (.int .i64 0)), some 6⟩] (.block 0 (.loop [0, 1, 5, 6] (.reg [⟨false, none, .mov (.t 6), some 7⟩,
  ⟨false, none, .mov (.t 1), some 8⟩,
  ⟨false, none, .len (.t 8), some 9⟩,
  ⟨false, none, .bin .lss (.t 7) (.t 9), some 10⟩] (.cond (.t 10) (.nop) (.exit 0) (.block 1 (.reg [⟨false, none, .mov (.t 0), some 13⟩,
  ⟨false, none, .mov (.t 0), some 14⟩,
  ⟨false, none, .nck (.t 14), some 15⟩,
  ⟨false, none, .fld 1 (.t 15), some 16⟩,
  ⟨false, none, .load (.t 16), some 17⟩,
  ⟨false, none, .mov (.t 1), some 18⟩,
  ⟨false, none, .mov (.t 6), some 19⟩,
  ⟨false, none, .idx 1 (.t 18) (.t 19), some 20⟩,
  ⟨false, none, .load (.t 20), some 21⟩,
  ⟨false, none, .mkSl false 1 1 (.int .u8 0) [(0, .t 21)], some 22⟩,
  ⟨false, none, .app 1 (.t 17) (.t 22), some 23⟩,
  ⟨false, none, .nck (.t 13), some 24⟩,
  ⟨false, none, .fld 1 (.t 24), some 25⟩,
  ⟨false, none, .st 1 (.t 25) (.t 23), none⟩] (.reg [⟨false, none, .mov (.t 0), some 26⟩,
  ⟨false, none, .nck (.t 26), some 27⟩,
  ⟨false, none, .fld 1 (.t 27), some 28⟩,
  ⟨false, none, .load (.t 28), some 29⟩,
  ⟨false, none, .len (.t 29), some 30⟩,
  ⟨false, none, .mov (.t 0), some 31⟩,
  ⟨false, none, .nck (.t 31), some 32⟩,
  ⟨false, none, .fld 0 (.t 32), some 33⟩,
  ⟨false, none, .load (.t 33), some 34⟩,
  ⟨false, none, .bin .eql (.t 30) (.t 34), some 35⟩] (.cond (.t 35) (.reg [⟨false, none, .mov (.t 5), some 36⟩,
  ⟨false, none, .mov (.t 0), some 37⟩,
  ⟨false, none, .call 30 [.t 37], some 38⟩,
  ⟨false, none, .app 1 (.t 36) (.t 38), some 39⟩,
  ⟨false, none, .mov (.t 39), some 5⟩] (.nop)) (.nop) (.nop)))) (.reg [⟨false, none, .mov (.t 6), some 11⟩,
  ⟨false, none, .bin .add (.t 11) (.c (.int .i64 1)), some 12⟩,
  ⟨false, none, .mov (.t 12), some 6⟩] (.nop)))))) (.reg [⟨false, none, .mov (.t 5), some 40⟩,
  ⟨false, none, .mov (.t 40), some 4⟩] (.ret)))))
def hn_19 : Hn := { M := { own := fun _ => false, rb := fun _ => none, ord := fun r => if r = 5 then [0, 1, 2, 3, 4, 5, 6, 7, 8, 9, 10, 11, 12, 13] else if r = 6 then [0, 1, 2, 3, 4, 5, 6, 7, 8, 9] else [] }, live := fun r => if r = 3 then [0, 1, 5, 6] else [], ms := [] }
theorem kr_19 : rdy Try.prog hn_19 Try.f19 = some (rc_19, [.t 4], 41) := by kernel_rfl
theorem enA_19 : enterA Try.prog 19 = true := by kernel_rfl
theorem en_19 {args : List AV} {K : AV → ASt → Prop} {S : ASt} (hl : args.length ≤ 41) (h : wpR Try.prog rc_19 (bodyQ [.t 4] K) (argF 0 args) S) : ACalls Try.prog 19 args S K := ACalls.of Try.func19 enA_19 kr_19 hl h

/-- (*salvor/salvorref6.Unpacker).End -/
def rc_20 : RC :=
  .reg [⟨false, none, .mov (.c (.sl .nil 0 [])), some 2⟩] (.reg [⟨false, none, .mov (.t 0), some 3⟩,
  ⟨false, none, .nck (.t 3), some 4⟩,
  ⟨false, none, .fld 1 (.t 4), some 5⟩,
  ⟨false, none, .load (.t 5), some 6⟩,
  ⟨false, none, .len (.t 6), some 7⟩,
  ⟨false, none, .bin .eql (.t 7) (.c (.int .i64 0)), some 8⟩] (.cond (.t 8) (.reg [⟨false, none, .mov (.c (.sl .nil 0 [])), some 2⟩] (.ret)) (.nop) (.reg [⟨false, none, .mov (.t 0), some 9⟩,
  ⟨false, none, .call 30 [.t 9], some 10⟩,
  ⟨false, none, .mov (.t 10), some 2⟩] (.ret))))
def hn_20 : Hn := { M := { own := fun _ => false, rb := fun _ => none, ord := fun _ => [] }, live := fun _ => [], ms := [] }
theorem kr_20 : rdy Try.prog hn_20 Try.f20 = some (rc_20, [.t 2], 11) := by kernel_rfl
theorem enA_20 : enterA Try.prog 20 = true := by kernel_rfl
theorem en_20 {args : List AV} {K : AV → ASt → Prop} {S : ASt} (hl : args.length ≤ 11) (h : wpR Try.prog rc_20 (bodyQ [.t 2] K) (argF 0 args) S) : ACalls Try.prog 20 args S K := ACalls.of Try.func20 enA_20 kr_20 hl h

/-- (*salvor/salvorref6.Packer).Put -/
def rc_21 : RC :=
  .reg [⟨false, none, .mov (.c (.sl .nil 0 [])), some 4⟩] (.reg [⟨false, none, .mov (.c (.sl .nil 0 [])), some 5⟩] (.reg [⟨false, none, .mov (.c (.int .i64 0)), some 6⟩] (.block 0 (.loop [0, 1, 5, 6] (.reg [⟨false, none, .mov (.t 6), some 7⟩,
  ⟨false, none, .mov (.t 1), some 8⟩,
  ⟨false, none, .len (.t 8), some 9⟩,
  ⟨false, none, .bin .lss (.t 7) (.t 9), some 10⟩] (.cond (.t 10) (.nop) (.exit 0) (.block 1 (.reg [⟨false, none, .mov (.t 1), some 13⟩,
  ⟨false, none, .mov (.t 6), some 14⟩,
  ⟨false, none, .idx 1 (.t 13) (.t 14), some 15⟩,
  ⟨false, none, .load (.t 15), some 16⟩,
  ⟨false, none, .bin .eql (.t 16) (.c (.int .u8 10)), some 17⟩] (.cond (.t 17) (.reg [⟨false, none, .mov (.t 5), some 18⟩,
  ⟨false, none, .mov (.t 0), some 19⟩,
  ⟨false, none, .call 31 [.t 19], some 20⟩,
  ⟨false, none, .app 1 (.t 18) (.t 20), some 21⟩,
  ⟨false, none, .mov (.t 21), some 5⟩] (.nop)) (.reg [⟨false, none, .mov (.t 0), some 22⟩,
  ⟨false, none, .mov (.t 0), some 23⟩,
  ⟨false, none, .nck (.t 23), some 24⟩,
  ⟨false, none, .fld 2 (.t 24), some 25⟩,
  ⟨false, none, .load (.t 25), some 26⟩,
  ⟨false, none, .mov (.t 1), some 27⟩,
  ⟨false, none, .mov (.t 6), some 28⟩,
  ⟨false, none, .idx 1 (.t 27) (.t 28), some 29⟩,
  ⟨false, none, .load (.t 29), some 30⟩,
  ⟨false, none, .mkSl false 1 1 (.int .u8 0) [(0, .t 30)], some 31⟩,
  ⟨false, none, .app 1 (.t 26) (.t 31), some 32⟩,
  ⟨false, none, .nck (.t 22), some 33⟩,
  ⟨false, none, .fld 2 (.t 33), some 34⟩,
  ⟨false, none, .st 1 (.t 34) (.t 32), none⟩] (.nop)) (.nop))) (.reg [⟨false, none, .mov (.t 6), some 11⟩,
  ⟨false, none, .bin .add (.t 11) (.c (.int .i64 1)), some 12⟩,
  ⟨false, none, .mov (.t 12), some 6⟩] (.nop)))))) (.reg [⟨false, none, .mov (.t 5), some 35⟩,
  ⟨false, none, .mov (.t 35), some 4⟩] (.ret)))))
def hn_21 : Hn := { M := { own := fun _ => false, rb := fun _ => none, ord := fun r => if r = 7 then [0, 1, 2, 3, 4, 5, 6, 7, 8, 9, 10, 11, 12, 13] else [] }, live := fun r => if r = 3 then [0, 1, 5, 6] else [], ms := [] }
theorem kr_21 : rdy Try.prog hn_21 Try.f21 = some (rc_21, [.t 4], 36) := by kernel_rfl
theorem enA_21 : enterA Try.prog 21 = true := by kernel_rfl
theorem en_21 {args : List AV} {K : AV → ASt → Prop} {S : ASt} (hl : args.length ≤ 36) (h : wpR Try.prog rc_21 (bodyQ [.t 4] K) (argF 0 args) S) : ACalls Try.prog 21 args S K := ACalls.of Try.func21 enA_21 kr_21 hl h

/-- (*salvor/fixed.Packer).End -/
def rc_22 : RC :=
  .reg [⟨false, none, .mov (.c (.sl .nil 0 [])), some 2⟩] (.reg [⟨false, none, .mov (.t 0), some 3⟩,
  ⟨false, none, .nck (.t 3), some 4⟩,
  ⟨false, none, .fld 0 (.t 4), some 5⟩,
  ⟨false, none, .fld 2 (.t 5), some 6⟩,
  ⟨false, none, .load (.t 6), some 7⟩,
  ⟨false, none, .bin .eql (.t 7) (.c (.int .i64 0)), some 8⟩] (.cond (.t 8) (.reg [⟨false, none, .mov (.c (.sl .nil 0 [])), some 2⟩] (.ret)) (.nop) (.reg [⟨false, none, .mov (.t 0), some 9⟩,
  ⟨false, none, .call 27 [.t 9], some 10⟩,
  ⟨false, none, .mov (.t 10), some 2⟩] (.ret))))
def hn_22 : Hn := { M := { own := fun _ => false, rb := fun _ => none, ord := fun _ => [] }, live := fun _ => [], ms := [] }
theorem kr_22 : rdy Try.prog hn_22 Try.f22 = some (rc_22, [.t 2], 11) := by kernel_rfl
theorem enA_22 : enterA Try.prog 22 = true := by kernel_rfl
theorem en_22 {args : List AV} {K : AV → ASt → Prop} {S : ASt} (hl : args.length ≤ 11) (h : wpR Try.prog rc_22 (bodyQ [.t 2] K) (argF 0 args) S) : ACalls Try.prog 22 args S K := ACalls.of Try.func22 enA_22 kr_22 hl h

/-- (*salvor/salvorref6.Packer).End -/
def rc_23 : RC :=
  .reg [⟨false, none, .mov (.c (.sl .nil 0 [])), some 2⟩] (.reg [⟨false, none, .mov (.t 0), some 3⟩,
  ⟨false, none, .nck (.t 3), some 4⟩,
  ⟨false, none, .fld 2 (.t 4), some 5⟩,
  ⟨false, none, .load (.t 5), some 6⟩,
  ⟨false, none, .len (.t 6), some 7⟩,
  ⟨false, none, .bin .eql (.t 7) (.c (.int .i64 0)), some 8⟩] (.cond (.t 8) (.reg [⟨false, none, .mov (.c (.sl .nil 0 [])), some 2⟩] (.ret)) (.nop) (.reg [⟨false, none, .mov (.t 0), some 9⟩,
  ⟨false, none, .call 31 [.t 9], some 10⟩,
  ⟨false, none, .mov (.t 10), some 2⟩] (.ret))))
def hn_23 : Hn := { M := { own := fun _ => false, rb := fun _ => none, ord := fun _ => [] }, live := fun _ => [], ms := [] }
theorem kr_23 : rdy Try.prog hn_23 Try.f23 = some (rc_23, [.t 2], 11) := by kernel_rfl
theorem enA_23 : enterA Try.prog 23 = true := by kernel_rfl
theorem en_23 {args : List AV} {K : AV → ASt → Prop} {S : ASt} (hl : args.length ≤ 11) (h : wpR Try.prog rc_23 (bodyQ [.t 2] K) (argF 0 args) S) : ACalls Try.prog 23 args S K := ACalls.of Try.func23 enA_23 kr_23 hl h

/-- salvor/salvorlaw7.pack -/
def rc_24 : RC :=
  .reg [⟨false, none, .mov (.c (.str [])), some 4⟩,
  ⟨false, none, .mov (.c (.int .i64 0)), some 5⟩] (.reg [⟨false, none, .mov (.t 0), some 9⟩,
  ⟨false, none, .call 9 [.t 9], some 10⟩,
  ⟨false, none, .mov (.t 10), some 6⟩] (.reg [⟨false, none, .mov (.c (.str [])), some 7⟩] (.reg [⟨false, none, .mov (.c (.int .i64 0)), some 8⟩] (.block 0 (.loop [1, 6, 7, 8] (.reg [⟨false, none, .mov (.t 8), some 11⟩,
  ⟨false, none, .mov (.t 1), some 12⟩,
  ⟨false, none, .len (.t 12), some 13⟩,
  ⟨false, none, .bin .lss (.t 11) (.t 13), some 14⟩,
  ⟨false, none, .mov (.t 14), some 15⟩,
  ⟨false, (some (15, true)), .mov (.t 6), some 16⟩,
  ⟨false, (some (15, true)), .eqp true (.t 16) (.c (.ptr none)), some 17⟩,
  ⟨false, none, .pick (.t 15) (.t 17) (.c (.bool false)), some 18⟩] (.cond (.t 18) (.nop) (.exit 0) (.block 1 (.reg [⟨false, none, .mov (.t 7), some 21⟩,
  ⟨false, none, .mov (.t 6), some 22⟩,
  ⟨false, none, .mov (.t 1), some 23⟩,
  ⟨false, none, .mov (.t 8), some 24⟩,
  ⟨false, none, .idx 1 (.t 23) (.t 24), some 25⟩,
  ⟨false, none, .load (.t 25), some 26⟩,
  ⟨false, none, .call 11 [.t 22, .t 26], some 27⟩,
  ⟨false, none, .toStr (.t 27), some 28⟩,
  ⟨false, none, .bin .add (.t 21) (.t 28), some 29⟩,
  ⟨false, none, .mov (.t 29), some 7⟩] (.nop)) (.reg [⟨false, none, .mov (.t 8), some 19⟩,
  ⟨false, none, .bin .add (.t 19) (.c (.int .i64 1)), some 20⟩,
  ⟨false, none, .mov (.t 20), some 8⟩] (.nop)))))) (.reg [⟨false, none, .mov (.t 6), some 30⟩,
  ⟨false, none, .eqp false (.t 30) (.c (.ptr none)), some 31⟩] (.cond (.t 31) (.reg [⟨false, none, .mov (.c (.str [])), some 4⟩,
  ⟨false, none, .mov (.c (.int .i64 (-1))), some 5⟩] (.ret)) (.nop) (.reg [⟨false, none, .mov (.t 7), some 32⟩,
  ⟨false, none, .mov (.t 6), some 33⟩,
  ⟨false, none, .call 22 [.t 33], some 34⟩,
  ⟨false, none, .toStr (.t 34), some 35⟩,
  ⟨false, none, .bin .add (.t 32) (.t 35), some 36⟩,
  ⟨false, none, .mov (.t 36), some 7⟩] (.reg [⟨false, none, .mov (.t 7), some 37⟩,
  ⟨false, none, .mov (.t 6), some 38⟩,
  ⟨false, none, .call 15 [.t 38], some 39⟩,
  ⟨false, none, .mov (.t 37), some 4⟩,
  ⟨false, none, .mov (.t 39), some 5⟩] (.ret)))))))))
def hn_24 : Hn := { M := { own := fun _ => false, rb := fun _ => none, ord := fun _ => [] }, live := fun r => if r = 4 then [1, 6, 7, 8] else [], ms := [] }
theorem kr_24 : rdy Try.prog hn_24 Try.f24 = some (rc_24, [.t 4, .t 5], 40) := by kernel_rfl
theorem enA_24 : enterA Try.prog 24 = true := by kernel_rfl
theorem en_24 {args : List AV} {K : AV → ASt → Prop} {S : ASt} (hl : args.length ≤ 40) (h : wpR Try.prog rc_24 (bodyQ [.t 4, .t 5] K) (argF 0 args) S) : ACalls Try.prog 24 args S K := ACalls.of Try.func24 enA_24 kr_24 hl h

/-- salvor/salvorlaw7.unpack -/
def rc_25 : RC :=
  .reg [⟨false, none, .mov (.c (.str [])), some 4⟩] (.reg [⟨false, none, .mov (.t 0), some 8⟩,
  ⟨false, none, .call 10 [.t 8], some 9⟩,
  ⟨false, none, .mov (.t 9), some 5⟩] (.reg [⟨false, none, .mov (.c (.str [])), some 6⟩] (.reg [⟨false, none, .mov (.c (.int .i64 0)), some 7⟩] (.block 0 (.loop [1, 5, 6, 7] (.reg [⟨false, none, .mov (.t 7), some 10⟩,
  ⟨false, none, .mov (.t 1), some 11⟩,
  ⟨false, none, .len (.t 11), some 12⟩,
  ⟨false, none, .bin .lss (.t 10) (.t 12), some 13⟩,
  ⟨false, none, .mov (.t 13), some 14⟩,
  ⟨false, (some (14, true)), .mov (.t 5), some 15⟩,
  ⟨false, (some (14, true)), .eqp true (.t 15) (.c (.ptr none)), some 16⟩,
  ⟨false, none, .pick (.t 14) (.t 16) (.c (.bool false)), some 17⟩] (.cond (.t 17) (.nop) (.exit 0) (.block 1 (.reg [⟨false, none, .mov (.t 6), some 20⟩,
  ⟨false, none, .mov (.t 5), some 21⟩,
  ⟨false, none, .mov (.t 1), some 22⟩,
  ⟨false, none, .mov (.t 7), some 23⟩,
  ⟨false, none, .idx 1 (.t 22) (.t 23), some 24⟩,
  ⟨false, none, .load (.t 24), some 25⟩,
  ⟨false, none, .call 12 [.t 21, .t 25], some 26⟩,
  ⟨false, none, .toStr (.t 26), some 27⟩,
  ⟨false, none, .bin .add (.t 20) (.t 27), some 28⟩,
  ⟨false, none, .mov (.t 28), some 6⟩] (.nop)) (.reg [⟨false, none, .mov (.t 7), some 18⟩,
  ⟨false, none, .bin .add (.t 18) (.c (.int .i64 1)), some 19⟩,
  ⟨false, none, .mov (.t 19), some 7⟩] (.nop)))))) (.reg [⟨false, none, .mov (.t 5), some 29⟩,
  ⟨false, none, .eqp true (.t 29) (.c (.ptr none)), some 30⟩] (.cond (.t 30) (.reg [⟨false, none, .mov (.t 6), some 31⟩,
  ⟨false, none, .mov (.t 5), some 32⟩,
  ⟨false, none, .call 14 [.t 32], some 33⟩,
  ⟨false, none, .toStr (.t 33), some 34⟩,
  ⟨false, none, .bin .add (.t 31) (.t 34), some 35⟩,
  ⟨false, none, .mov (.t 35), some 6⟩] (.nop)) (.nop) (.reg [⟨false, none, .mov (.t 6), some 36⟩,
  ⟨false, none, .mov (.t 36), some 4⟩] (.ret))))))))
def hn_25 : Hn := { M := { own := fun _ => false, rb := fun _ => none, ord := fun _ => [] }, live := fun r => if r = 4 then [1, 5, 6, 7] else [], ms := [] }
theorem kr_25 : rdy Try.prog hn_25 Try.f25 = some (rc_25, [.t 4], 37) := by kernel_rfl
theorem enA_25 : enterA Try.prog 25 = true := by kernel_rfl
theorem en_25 {args : List AV} {K : AV → ASt → Prop} {S : ASt} (hl : args.length ≤ 37) (h : wpR Try.prog rc_25 (bodyQ [.t 4] K) (argF 0 args) S) : ACalls Try.prog 25 args S K := ACalls.of Try.func25 enA_25 kr_25 hl h

/-- salvor/fixed.rec -/
def rc_26 : RC :=
  .reg [⟨false, none, .alloc ([.int .i64 0, .sl .nil 0 [], .int .i64 0]), some 2⟩] (.reg [⟨false, none, .mov (.t 0), some 3⟩,
  ⟨false, none, .max (.t 3) (.c (.int .i64 1)), some 4⟩,
  ⟨false, none, .min (.t 4) (.c (.int .i64 4096)), some 5⟩,
  ⟨false, none, .build ([.int .i64 0, .sl .nil 0 [], .int .i64 0]) [(0, 1), (1, 1), (2, 1)] [(0, .t 5)], some 6⟩,
  ⟨false, none, .st 3 (.t 2) (.t 6), none⟩] (.ret))
def hn_26 : Hn := { M := { own := fun _ => false, rb := fun _ => none, ord := fun _ => [] }, live := fun _ => [], ms := [] }
theorem kr_26 : rdy Try.prog hn_26 Try.f26 = some (rc_26, [.cellN 2 3], 7) := by kernel_rfl
theorem enA_26 : enterA Try.prog 26 = true := by kernel_rfl
theorem en_26 {args : List AV} {K : AV → ASt → Prop} {S : ASt} (hl : args.length ≤ 7) (h : wpR Try.prog rc_26 (bodyQ [.cellN 2 3] K) (argF 0 args) S) : ACalls Try.prog 26 args S K := ACalls.of Try.func26 enA_26 kr_26 hl h

/-- (*salvor/fixed.Packer).record -/
def rc_27 : RC :=
  .reg [⟨false, none, .mov (.c (.sl .nil 0 [])), some 2⟩] (.reg [⟨false, none, .mov (.t 0), some 4⟩,
  ⟨false, none, .nck (.t 4), some 5⟩,
  ⟨false, none, .fld 0 (.t 5), some 6⟩,
  ⟨false, none, .fld 2 (.t 6), some 7⟩,
  ⟨false, none, .load (.t 7), some 8⟩,
  ⟨false, none, .mov (.t 0), some 9⟩,
  ⟨false, none, .nck (.t 9), some 10⟩,
  ⟨false, none, .fld 0 (.t 10), some 11⟩,
  ⟨false, none, .fld 0 (.t 11), some 12⟩,
  ⟨false, none, .load (.t 12), some 13⟩,
  ⟨false, none, .bin .gtr (.t 8) (.t 13), some 14⟩] (.cond (.t 14) (.reg [⟨false, none, .mov (.t 0), some 15⟩,
  ⟨false, none, .nck (.t 15), some 16⟩,
  ⟨false, none, .fld 3 (.t 16), some 17⟩,
  ⟨false, none, .load (.t 17), some 18⟩,
  ⟨false, none, .bin .add (.t 18) (.c (.int .i64 1)), some 19⟩,
  ⟨false, none, .nck (.t 15), some 20⟩,
  ⟨false, none, .fld 3 (.t 20), some 21⟩,
  ⟨false, none, .st 1 (.t 21) (.t 19), none⟩] (.nop)) (.nop) (.reg [⟨false, none, .mov (.t 0), some 22⟩,
  ⟨false, none, .nck (.t 22), some 23⟩,
  ⟨false, none, .fld 0 (.t 23), some 24⟩,
  ⟨false, none, .call 32 [.t 24], some 25⟩,
  ⟨false, none, .mov (.t 25), some 3⟩] (.reg [⟨false, none, .mov (.t 3), some 26⟩,
  ⟨false, none, .mkSl false 1 1 (.int .u8 0) [(0, .c (.int .u8 32))], some 27⟩,
  ⟨false, none, .mov (.t 0), some 28⟩,
  ⟨false, none, .nck (.t 28), some 29⟩,
  ⟨false, none, .fld 0 (.t 29), some 30⟩,
  ⟨false, none, .fld 0 (.t 30), some 31⟩,
  ⟨false, none, .load (.t 31), some 32⟩,
  ⟨false, none, .mov (.t 3), some 33⟩,
  ⟨false, none, .len (.t 33), some 34⟩,
  ⟨false, none, .bin .sub (.t 32) (.t 34), some 35⟩,
  ⟨false, none, .call 34 [.t 27, .t 35], some 36⟩,
  ⟨false, none, .mkSl false 1 2 (.sl .nil 0 []) [(0, .t 26), (1, .t 36)], some 37⟩,
  ⟨false, none, .call 33 [.t 37], some 38⟩,
  ⟨false, none, .mov (.t 38), some 2⟩] (.ret)))))
def hn_27 : Hn := { M := { own := fun _ => false, rb := fun _ => none, ord := fun r => if r = 1 then [0, 1, 2, 3, 4, 5, 6, 7, 8, 9, 10] else [] }, live := fun _ => [], ms := [] }
theorem kr_27 : rdy Try.prog hn_27 Try.f27 = some (rc_27, [.t 2], 39) := by kernel_rfl
theorem enA_27 : enterA Try.prog 27 = true := by kernel_rfl
theorem en_27 {args : List AV} {K : AV → ASt → Prop} {S : ASt} (hl : args.length ≤ 39) (h : wpR Try.prog rc_27 (bodyQ [.t 2] K) (argF 0 args) S) : ACalls Try.prog 27 args S K := ACalls.of Try.func27 enA_27 kr_27 hl h

/-- (*salvor/fixed.Rec).hold -/
def rc_28 : RC :=
  .reg [⟨false, none, .mov (.t 0), some 4⟩,
  ⟨false, none, .nck (.t 4), some 5⟩,
  ⟨false, none, .fld 2 (.t 5), some 6⟩,
  ⟨false, none, .load (.t 6), some 7⟩,
  ⟨false, none, .mov (.t 0), some 8⟩,
  ⟨false, none, .nck (.t 8), some 9⟩,
  ⟨false, none, .fld 0 (.t 9), some 10⟩,
  ⟨false, none, .load (.t 10), some 11⟩,
  ⟨false, none, .bin .lss (.t 7) (.t 11), some 12⟩] (.cond (.t 12) (.reg [⟨false, none, .mov (.t 0), some 13⟩,
  ⟨false, none, .mov (.t 0), some 14⟩,
  ⟨false, none, .nck (.t 14), some 15⟩,
  ⟨false, none, .fld 1 (.t 15), some 16⟩,
  ⟨false, none, .load (.t 16), some 17⟩,
  ⟨false, none, .mov (.t 1), some 18⟩,
  ⟨false, none, .mkSl false 1 1 (.int .u8 0) [(0, .t 18)], some 19⟩,
  ⟨false, none, .app 1 (.t 17) (.t 19), some 20⟩,
  ⟨false, none, .nck (.t 13), some 21⟩,
  ⟨false, none, .fld 1 (.t 21), some 22⟩,
  ⟨false, none, .st 1 (.t 22) (.t 20), none⟩] (.nop)) (.nop) (.reg [⟨false, none, .mov (.t 0), some 23⟩,
  ⟨false, none, .nck (.t 23), some 24⟩,
  ⟨false, none, .fld 2 (.t 24), some 25⟩,
  ⟨false, none, .load (.t 25), some 26⟩,
  ⟨false, none, .bin .add (.t 26) (.c (.int .i64 1)), some 27⟩,
  ⟨false, none, .nck (.t 23), some 28⟩,
  ⟨false, none, .fld 2 (.t 28), some 29⟩,
  ⟨false, none, .st 1 (.t 29) (.t 27), none⟩] (.nop)))
def hn_28 : Hn := { M := { own := fun _ => false, rb := fun _ => none, ord := fun r => if r = 0 then [0, 1, 2, 3, 4, 5, 6, 7, 8] else [] }, live := fun _ => [], ms := [] }
theorem kr_28 : rdy Try.prog hn_28 Try.f28 = some (rc_28, [], 30) := by kernel_rfl
theorem enA_28 : enterA Try.prog 28 = true := by kernel_rfl
theorem en_28 {args : List AV} {K : AV → ASt → Prop} {S : ASt} (hl : args.length ≤ 30) (h : wpR Try.prog rc_28 (bodyQ [] K) (argF 0 args) S) : ACalls Try.prog 28 args S K := ACalls.of Try.func28 enA_28 kr_28 hl h

/-- (*salvor/fixed.Unpacker).line -/
def rc_29 : RC :=
  .reg [⟨false, none, .mov (.c (.sl .nil 0 [])), some 2⟩] (.reg [⟨false, none, .mov (.t 0), some 4⟩,
  ⟨false, none, .nck (.t 4), some 5⟩,
  ⟨false, none, .fld 0 (.t 5), some 6⟩,
  ⟨false, none, .call 32 [.t 6], some 7⟩,
  ⟨false, none, .mov (.t 7), some 3⟩] (.block 0 (.loop [3] (.reg [⟨false, none, .mov (.t 3), some 8⟩,
  ⟨false, none, .len (.t 8), some 9⟩,
  ⟨false, none, .bin .gtr (.t 9) (.c (.int .i64 0)), some 10⟩,
  ⟨false, none, .mov (.t 10), some 11⟩,
  ⟨false, (some (11, true)), .mov (.t 3), some 12⟩,
  ⟨false, (some (11, true)), .mov (.t 3), some 13⟩,
  ⟨false, (some (11, true)), .len (.t 13), some 14⟩,
  ⟨false, (some (11, true)), .bin .sub (.t 14) (.c (.int .i64 1)), some 15⟩,
  ⟨false, (some (11, true)), .idx 1 (.t 12) (.t 15), some 16⟩,
  ⟨false, (some (11, true)), .load (.t 16), some 17⟩,
  ⟨false, (some (11, true)), .bin .eql (.t 17) (.c (.int .u8 32)), some 18⟩,
  ⟨false, none, .pick (.t 11) (.t 18) (.c (.bool false)), some 19⟩] (.cond (.t 19) (.nop) (.exit 0) (.block 1 (.reg [⟨false, none, .mov (.t 3), some 20⟩,
  ⟨false, none, .mov (.t 3), some 21⟩,
  ⟨false, none, .len (.t 21), some 22⟩,
  ⟨false, none, .bin .sub (.t 22) (.c (.int .i64 1)), some 23⟩,
  ⟨false, none, .slice 1 (.t 20) none (some (.t 23)), some 24⟩,
  ⟨false, none, .mov (.t 24), some 3⟩] (.nop)) (.nop))))) (.reg [⟨false, none, .mov (.t 3), some 25⟩,
  ⟨false, none, .mkSl false 1 1 (.int .u8 0) [(0, .c (.int .u8 10))], some 26⟩,
  ⟨false, none, .app 1 (.t 25) (.t 26), some 27⟩,
  ⟨false, none, .mov (.t 27), some 2⟩] (.ret))))
def hn_29 : Hn := { M := { own := fun _ => false, rb := fun _ => none, ord := fun _ => [] }, live := fun r => if r = 2 then [3] else [], ms := [] }
theorem kr_29 : rdy Try.prog hn_29 Try.f29 = some (rc_29, [.t 2], 28) := by kernel_rfl
theorem enA_29 : enterA Try.prog 29 = true := by kernel_rfl
theorem en_29 {args : List AV} {K : AV → ASt → Prop} {S : ASt} (hl : args.length ≤ 28) (h : wpR Try.prog rc_29 (bodyQ [.t 2] K) (argF 0 args) S) : ACalls Try.prog 29 args S K := ACalls.of Try.func29 enA_29 kr_29 hl h

/-- (*salvor/salvorref6.Unpacker).line -/
def rc_30 : RC :=
  .reg [⟨false, none, .mov (.c (.sl .nil 0 [])), some 2⟩] (.reg [⟨false, none, .mov (.t 0), some 5⟩,
  ⟨false, none, .nck (.t 5), some 6⟩,
  ⟨false, none, .fld 1 (.t 6), some 7⟩,
  ⟨false, none, .load (.t 7), some 8⟩,
  ⟨false, none, .len (.t 8), some 9⟩,
  ⟨false, none, .mov (.t 9), some 3⟩] (.block 0 (.loop [0, 3] (.reg [⟨false, none, .mov (.t 3), some 10⟩,
  ⟨false, none, .bin .gtr (.t 10) (.c (.int .i64 0)), some 11⟩,
  ⟨false, none, .mov (.t 11), some 12⟩,
  ⟨false, (some (12, true)), .mov (.t 0), some 13⟩,
  ⟨false, (some (12, true)), .nck (.t 13), some 14⟩,
  ⟨false, (some (12, true)), .fld 1 (.t 14), some 15⟩,
  ⟨false, (some (12, true)), .load (.t 15), some 16⟩,
  ⟨false, (some (12, true)), .mov (.t 3), some 17⟩,
  ⟨false, (some (12, true)), .bin .sub (.t 17) (.c (.int .i64 1)), some 18⟩,
  ⟨false, (some (12, true)), .idx 1 (.t 16) (.t 18), some 19⟩,
  ⟨false, (some (12, true)), .load (.t 19), some 20⟩,
  ⟨false, (some (12, true)), .bin .eql (.t 20) (.c (.int .u8 32)), some 21⟩,
  ⟨false, none, .pick (.t 12) (.t 21) (.c (.bool false)), some 22⟩] (.cond (.t 22) (.nop) (.exit 0) (.block 1 (.reg [⟨false, none, .mov (.t 3), some 23⟩,
  ⟨false, none, .bin .sub (.t 23) (.c (.int .i64 1)), some 24⟩,
  ⟨false, none, .mov (.t 24), some 3⟩] (.nop)) (.nop))))) (.reg [⟨false, none, .mov (.t 0), some 25⟩,
  ⟨false, none, .nck (.t 25), some 26⟩,
  ⟨false, none, .fld 1 (.t 26), some 27⟩,
  ⟨false, none, .load (.t 27), some 28⟩,
  ⟨false, none, .mov (.t 3), some 29⟩,
  ⟨false, none, .slice 1 (.t 28) none (some (.t 29)), some 30⟩,
  ⟨false, none, .app 1 (.c (.sl .nil 0 [])) (.t 30), some 31⟩,
  ⟨false, none, .mkSl false 1 1 (.int .u8 0) [(0, .c (.int .u8 10))], some 32⟩,
  ⟨false, none, .app 1 (.t 31) (.t 32), some 33⟩,
  ⟨false, none, .mov (.t 33), some 4⟩] (.reg [⟨false, none, .mov (.t 0), some 34⟩,
  ⟨false, none, .nck (.t 34), some 35⟩,
  ⟨false, none, .fld 1 (.t 35), some 36⟩,
  ⟨false, none, .st 1 (.t 36) (.c (.sl .nil 0 [])), none⟩] (.reg [⟨false, none, .mov (.t 4), some 37⟩,
  ⟨false, none, .mov (.t 37), some 2⟩] (.ret))))))
def hn_30 : Hn := { M := { own := fun _ => false, rb := fun _ => none, ord := fun _ => [] }, live := fun r => if r = 2 then [0, 3] else [], ms := [] }
theorem kr_30 : rdy Try.prog hn_30 Try.f30 = some (rc_30, [.t 2], 38) := by kernel_rfl
theorem enA_30 : enterA Try.prog 30 = true := by kernel_rfl
theorem en_30 {args : List AV} {K : AV → ASt → Prop} {S : ASt} (hl : args.length ≤ 38) (h : wpR Try.prog rc_30 (bodyQ [.t 2] K) (argF 0 args) S) : ACalls Try.prog 30 args S K := ACalls.of Try.func30 enA_30 kr_30 hl h

/-- (*salvor/salvorref6.Packer).record -/
def rc_31 : RC :=
  .reg [⟨false, none, .mov (.c (.sl .nil 0 [])), some 2⟩] (.reg [⟨false, none, .mov (.t 0), some 4⟩,
  ⟨false, none, .nck (.t 4), some 5⟩,
  ⟨false, none, .fld 2 (.t 5), some 6⟩,
  ⟨false, none, .load (.t 6), some 7⟩,
  ⟨false, none, .len (.t 7), some 8⟩,
  ⟨false, none, .mov (.t 0), some 9⟩,
  ⟨false, none, .nck (.t 9), some 10⟩,
  ⟨false, none, .fld 0 (.t 10), some 11⟩,
  ⟨false, none, .load (.t 11), some 12⟩,
  ⟨false, none, .bin .gtr (.t 8) (.t 12), some 13⟩] (.cond (.t 13) (.reg [⟨false, none, .mov (.t 0), some 14⟩,
  ⟨false, none, .nck (.t 14), some 15⟩,
  ⟨false, none, .fld 1 (.t 15), some 16⟩,
  ⟨false, none, .load (.t 16), some 17⟩,
  ⟨false, none, .bin .add (.t 17) (.c (.int .i64 1)), some 18⟩,
  ⟨false, none, .nck (.t 14), some 19⟩,
  ⟨false, none, .fld 1 (.t 19), some 20⟩,
  ⟨false, none, .st 1 (.t 20) (.t 18), none⟩] (.reg [⟨false, none, .mov (.t 0), some 21⟩,
  ⟨false, none, .mov (.t 0), some 22⟩,
  ⟨false, none, .nck (.t 22), some 23⟩,
  ⟨false, none, .fld 2 (.t 23), some 24⟩,
  ⟨false, none, .load (.t 24), some 25⟩,
  ⟨false, none, .mov (.t 0), some 26⟩,
  ⟨false, none, .nck (.t 26), some 27⟩,
  ⟨false, none, .fld 0 (.t 27), some 28⟩,
  ⟨false, none, .load (.t 28), some 29⟩,
  ⟨false, none, .slice 1 (.t 25) none (some (.t 29)), some 30⟩,
  ⟨false, none, .nck (.t 21), some 31⟩,
  ⟨false, none, .fld 2 (.t 31), some 32⟩,
  ⟨false, none, .st 1 (.t 32) (.t 30), none⟩] (.nop))) (.nop) (.reg [⟨false, none, .mov (.t 0), some 33⟩,
  ⟨false, none, .nck (.t 33), some 34⟩,
  ⟨false, none, .fld 2 (.t 34), some 35⟩,
  ⟨false, none, .load (.t 35), some 36⟩,
  ⟨false, none, .app 1 (.c (.sl .nil 0 [])) (.t 36), some 37⟩,
  ⟨false, none, .mov (.t 37), some 3⟩] (.block 0 (.loop [0, 3] (.reg [⟨false, none, .mov (.t 3), some 38⟩,
  ⟨false, none, .len (.t 38), some 39⟩,
  ⟨false, none, .mov (.t 0), some 40⟩,
  ⟨false, none, .nck (.t 40), some 41⟩,
  ⟨false, none, .fld 0 (.t 41), some 42⟩,
  ⟨false, none, .load (.t 42), some 43⟩,
  ⟨false, none, .bin .lss (.t 39) (.t 43), some 44⟩] (.cond (.t 44) (.nop) (.exit 0) (.block 1 (.reg [⟨false, none, .mov (.t 3), some 45⟩,
  ⟨false, none, .mkSl false 1 1 (.int .u8 0) [(0, .c (.int .u8 32))], some 46⟩,
  ⟨false, none, .app 1 (.t 45) (.t 46), some 47⟩,
  ⟨false, none, .mov (.t 47), some 3⟩] (.nop)) (.nop))))) (.reg [⟨false, none, .mov (.t 0), some 48⟩,
  ⟨false, none, .nck (.t 48), some 49⟩,
  ⟨false, none, .fld 2 (.t 49), some 50⟩,
  ⟨false, none, .st 1 (.t 50) (.c (.sl .nil 0 [])), none⟩] (.reg [⟨false, none, .mov (.t 3), some 51⟩,
  ⟨false, none, .mov (.t 51), some 2⟩] (.ret)))))))
def hn_31 : Hn := { M := { own := fun _ => false, rb := fun _ => none, ord := fun r => if r = 1 then [0, 1, 2, 3, 4, 5, 6, 7, 8, 9] else if r = 3 then [0, 1, 2, 3, 4, 5, 6, 7, 8, 9, 10, 11, 12] else [] }, live := fun r => if r = 5 then [0, 3] else [], ms := [] }
theorem kr_31 : rdy Try.prog hn_31 Try.f31 = some (rc_31, [.t 2], 52) := by kernel_rfl
theorem enA_31 : enterA Try.prog 31 = true := by kernel_rfl
theorem en_31 {args : List AV} {K : AV → ASt → Prop} {S : ASt} (hl : args.length ≤ 52) (h : wpR Try.prog rc_31 (bodyQ [.t 2] K) (argF 0 args) S) : ACalls Try.prog 31 args S K := ACalls.of Try.func31 enA_31 kr_31 hl h

/-- (*salvor/fixed.Rec).free -/
def rc_32 : RC :=
  .reg [⟨false, none, .mov (.c (.sl .nil 0 [])), some 2⟩] (.reg [⟨false, none, .mov (.t 0), some 4⟩,
  ⟨false, none, .nck (.t 4), some 5⟩,
  ⟨false, none, .fld 1 (.t 5), some 6⟩,
  ⟨false, none, .load (.t 6), some 7⟩,
  ⟨false, none, .mov (.t 7), some 3⟩] (.reg [⟨false, none, .mov (.t 0), some 8⟩,
  ⟨false, none, .mov (.t 0), some 9⟩,
  ⟨false, none, .nck (.t 8), some 10⟩,
  ⟨false, none, .fld 1 (.t 10), some 11⟩,
  ⟨false, none, .st 1 (.t 11) (.c (.sl .nil 0 [])), none⟩,
  ⟨false, none, .nck (.t 9), some 12⟩,
  ⟨false, none, .fld 2 (.t 12), some 13⟩,
  ⟨false, none, .st 1 (.t 13) (.c (.int .i64 0)), none⟩] (.reg [⟨false, none, .mov (.t 3), some 14⟩,
  ⟨false, none, .mov (.t 14), some 2⟩] (.ret))))
def hn_32 : Hn := { M := { own := fun _ => false, rb := fun _ => none, ord := fun _ => [] }, live := fun _ => [], ms := [] }
theorem kr_32 : rdy Try.prog hn_32 Try.f32 = some (rc_32, [.t 2], 15) := by kernel_rfl
theorem enA_32 : enterA Try.prog 32 = true := by kernel_rfl
theorem en_32 {args : List AV} {K : AV → ASt → Prop} {S : ASt} (hl : args.length ≤ 15) (h : wpR Try.prog rc_32 (bodyQ [.t 2] K) (argF 0 args) S) : ACalls Try.prog 32 args S K := ACalls.of Try.func32 enA_32 kr_32 hl h

/-- slices.Concat(()byte,byte) -/
def rc_33 : RC :=
  .reg [⟨false, none, .mov (.c (.sl .nil 0 [])), some 2⟩] (.reg [⟨false, none, .mov (.c (.int .i64 0)), some 3⟩] (.reg [⟨false, none, .mov (.t 0), some 9⟩,
  ⟨false, none, .len (.t 9), some 10⟩,
  ⟨false, none, .mov (.c (.int .i64 0)), some 11⟩] (.block 0 (.loop [0, 3, 9, 10, 11] (.reg [⟨false, none, .bin .lss (.t 11) (.t 10), some 12⟩] (.cond (.t 12) (.nop) (.exit 0) (.block 1 (.reg [⟨false, none, .idx 1 (.t 9) (.t 11), some 13⟩,
  ⟨false, none, .load (.t 13), some 14⟩,
  ⟨false, none, .mov (.t 14), some 5⟩] (.reg [⟨false, none, .mov (.t 3), some 15⟩,
  ⟨false, none, .mov (.t 5), some 16⟩,
  ⟨false, none, .len (.t 16), some 17⟩,
  ⟨false, none, .bin .add (.t 15) (.t 17), some 18⟩,
  ⟨false, none, .mov (.t 18), some 3⟩] (.reg [⟨false, none, .mov (.t 3), some 19⟩,
  ⟨false, none, .bin .lss (.t 19) (.c (.int .i64 0)), some 20⟩] (.cond (.t 20) (.reg [⟨false, none, .iface 9 (.c (.str [108, 101, 110, 32, 111, 117, 116, 32, 111, 102, 32, 114, 97, 110, 103, 101])), some 21⟩,
  ⟨false, none, .no, none⟩] (.nop)) (.nop) (.nop))))) (.reg [⟨false, none, .bin .add (.t 11) (.c (.int .i64 1)), some 22⟩,
  ⟨false, none, .mov (.t 22), some 11⟩] (.nop)))))) (.reg [⟨false, none, .mov (.t 3), some 23⟩,
  ⟨false, none, .call 35 [.c (.sl .nil 0 []), .t 23], some 24⟩,
  ⟨false, none, .mov (.t 24), some 6⟩] (.reg [⟨false, none, .mov (.t 0), some 25⟩,
  ⟨false, none, .len (.t 25), some 26⟩,
  ⟨false, none, .mov (.c (.int .i64 0)), some 27⟩] (.block 2 (.loop [6, 25, 26, 27] (.reg [⟨false, none, .bin .lss (.t 27) (.t 26), some 28⟩] (.cond (.t 28) (.nop) (.exit 2) (.block 3 (.reg [⟨false, none, .idx 1 (.t 25) (.t 27), some 29⟩,
  ⟨false, none, .load (.t 29), some 30⟩,
  ⟨false, none, .mov (.t 30), some 8⟩] (.reg [⟨false, none, .mov (.t 6), some 31⟩,
  ⟨false, none, .mov (.t 8), some 32⟩,
  ⟨false, none, .app 1 (.t 31) (.t 32), some 33⟩,
  ⟨false, none, .mov (.t 33), some 6⟩] (.nop))) (.reg [⟨false, none, .bin .add (.t 27) (.c (.int .i64 1)), some 34⟩,
  ⟨false, none, .mov (.t 34), some 27⟩] (.nop)))))) (.reg [⟨false, none, .mov (.t 6), some 35⟩,
  ⟨false, none, .mov (.t 35), some 2⟩] (.ret))))))))
def hn_33 : Hn := { M := { own := fun _ => false, rb := fun _ => none, ord := fun _ => [] }, live := fun r => if r = 3 then [0, 3, 9, 10, 11] else if r = 11 then [6, 25, 26, 27] else [], ms := [] }
theorem kr_33 : rdy Try.prog hn_33 Try.f33 = some (rc_33, [.t 2], 36) := by kernel_rfl
theorem enA_33 : enterA Try.prog 33 = true := by kernel_rfl
theorem en_33 {args : List AV} {K : AV → ASt → Prop} {S : ASt} (hl : args.length ≤ 36) (h : wpR Try.prog rc_33 (bodyQ [.t 2] K) (argF 0 args) S) : ACalls Try.prog 33 args S K := ACalls.of Try.func33 enA_33 kr_33 hl h

/-- bytes.Repeat -/
def rc_34 : RC :=
  .reg [⟨false, none, .mov (.c (.sl .nil 0 [])), some 4⟩] (.reg [⟨false, none, .mov (.t 1), some 12⟩,
  ⟨false, none, .bin .eql (.t 12) (.c (.int .i64 0)), some 13⟩] (.cond (.t 13) (.reg [⟨false, none, .mkSl false 1 0 (.int .u8 0) [], some 14⟩,
  ⟨false, none, .mov (.t 14), some 4⟩] (.ret)) (.nop) (.reg [⟨false, none, .mov (.t 1), some 15⟩,
  ⟨false, none, .bin .lss (.t 15) (.c (.int .i64 0)), some 16⟩] (.cond (.t 16) (.reg [⟨false, none, .iface 9 (.c (.str [98, 121, 116, 101, 115, 58, 32, 110, 101, 103, 97, 116, 105, 118, 101, 32, 82, 101, 112, 101, 97, 116, 32, 99, 111, 117, 110, 116])), some 17⟩,
  ⟨false, none, .no, none⟩] (.nop)) (.nop) (.reg [⟨false, none, .mov (.t 0), some 19⟩,
  ⟨false, none, .len (.t 19), some 20⟩,
  ⟨false, none, .toInt .u64 (.t 20), some 21⟩,
  ⟨false, none, .mov (.t 1), some 22⟩,
  ⟨false, none, .toInt .u64 (.t 22), some 23⟩,
  ⟨false, none, .call 36 [.t 21, .t 23], some 24⟩,
  ⟨false, none, .mov (.t 24), some 18⟩,
  ⟨false, none, .ext (.t 18) 0, some 25⟩,
  ⟨false, none, .ext (.t 18) 1, some 26⟩,
  ⟨false, none, .mov (.t 25), some 5⟩,
  ⟨false, none, .mov (.t 26), some 6⟩] (.reg [⟨false, none, .mov (.t 5), some 27⟩,
  ⟨false, none, .bin .gtr (.t 27) (.c (.int .u64 0)), some 28⟩,
  ⟨false, none, .mov (.t 28), some 29⟩,
  ⟨false, (some (29, false)), .mov (.t 6), some 30⟩,
  ⟨false, (some (29, false)), .bin .gtr (.t 30) (.c (.int .u64 9223372036854775807)), some 31⟩,
  ⟨false, none, .pick (.t 29) (.c (.bool true)) (.t 31), some 32⟩] (.cond (.t 32) (.reg [⟨false, none, .iface 9 (.c (.str [98, 121, 116, 101, 115, 58, 32, 82, 101, 112, 101, 97, 116, 32, 111, 117, 116, 112, 117, 116, 32, 108, 101, 110, 103, 116, 104, 32, 111, 118, 101, 114, 102, 108, 111, 119])), some 33⟩,
  ⟨false, none, .no, none⟩] (.nop)) (.nop) (.reg [⟨false, none, .mov (.t 6), some 34⟩,
  ⟨false, none, .toInt .i64 (.t 34), some 35⟩,
  ⟨false, none, .mov (.t 35), some 7⟩] (.reg [⟨false, none, .mov (.t 0), some 36⟩,
  ⟨false, none, .len (.t 36), some 37⟩,
  ⟨false, none, .bin .eql (.t 37) (.c (.int .i64 0)), some 38⟩] (.cond (.t 38) (.reg [⟨false, none, .mkSl false 1 0 (.int .u8 0) [], some 39⟩,
  ⟨false, none, .mov (.t 39), some 4⟩] (.ret)) (.nop) (.reg [⟨false, none, .mov (.t 7), some 40⟩,
  ⟨false, none, .mov (.t 40), some 8⟩] (.reg [⟨false, none, .mov (.t 8), some 41⟩,
  ⟨false, none, .bin .gtr (.t 41) (.c (.int .i64 8192)), some 42⟩] (.cond (.t 42) (.reg [⟨false, none, .mov (.t 0), some 43⟩,
  ⟨false, none, .len (.t 43), some 44⟩,
  ⟨false, none, .bin .quo (.c (.int .i64 8192)) (.t 44), some 45⟩,
  ⟨false, none, .mov (.t 0), some 46⟩,
  ⟨false, none, .len (.t 46), some 47⟩,
  ⟨false, none, .bin .mul (.t 45) (.t 47), some 48⟩,
  ⟨false, none, .mov (.t 48), some 8⟩] (.reg [⟨false, none, .mov (.t 8), some 49⟩,
  ⟨false, none, .bin .eql (.t 49) (.c (.int .i64 0)), some 50⟩] (.cond (.t 50) (.reg [⟨false, none, .mov (.t 0), some 51⟩,
  ⟨false, none, .len (.t 51), some 52⟩,
  ⟨false, none, .mov (.t 52), some 8⟩] (.nop)) (.nop) (.nop)))) (.nop) (.reg [⟨false, none, .mov (.t 7), some 53⟩,
  ⟨false, none, .call 37 [.t 53], some 54⟩,
  ⟨false, none, .mov (.t 7), some 55⟩,
  ⟨false, none, .mov (.t 7), some 56⟩,
  ⟨false, none, .no, some 57⟩,
  ⟨false, none, .mov (.t 57), some 9⟩] (.reg [⟨false, none, .mov (.t 9), some 58⟩,
  ⟨false, none, .mov (.t 0), some 59⟩,
  ⟨false, none, .no, some 60⟩,
  ⟨false, none, .mov (.t 60), some 10⟩] (.block 0 (.loop [7, 8, 9, 10] (.reg [⟨false, none, .mov (.t 10), some 61⟩,
  ⟨false, none, .mov (.t 7), some 62⟩,
  ⟨false, none, .bin .lss (.t 61) (.t 62), some 63⟩] (.cond (.t 63) (.nop) (.exit 0) (.block 1 (.reg [⟨false, none, .mov (.t 10), some 64⟩,
  ⟨false, none, .mov (.t 8), some 65⟩,
  ⟨false, none, .min (.t 64) (.t 65), some 66⟩,
  ⟨false, none, .mov (.t 66), some 11⟩] (.reg [⟨false, none, .mov (.t 10), some 67⟩,
  ⟨false, none, .mov (.t 9), some 68⟩,
  ⟨false, none, .mov (.t 10), some 69⟩,
  ⟨false, none, .slice 1 (.t 68) (some (.t 69)) none, some 70⟩,
  ⟨false, none, .mov (.t 9), some 71⟩,
  ⟨false, none, .mov (.t 11), some 72⟩,
  ⟨false, none, .slice 1 (.t 71) none (some (.t 72)), some 73⟩,
  ⟨false, none, .no, some 74⟩,
  ⟨false, none, .bin .add (.t 67) (.t 74), some 75⟩,
  ⟨false, none, .mov (.t 75), some 10⟩] (.nop))) (.nop))))) (.reg [⟨false, none, .mov (.t 9), some 76⟩,
  ⟨false, none, .mov (.t 76), some 4⟩] (.ret))))))))))))))))))
def hn_34 : Hn := { M := { own := fun _ => false, rb := fun _ => none, ord := fun r => if r = 20 then [0, 1, 2, 3, 4, 5, 6, 7, 8, 9] else [] }, live := fun r => if r = 18 then [7, 8, 9, 10] else [], ms := [] }
theorem kr_34 : rdy Try.prog hn_34 Try.f34 = some (rc_34, [.t 4], 77) := by kernel_rfl
theorem enA_34 : enterA Try.prog 34 = true := by kernel_rfl
theorem en_34 {args : List AV} {K : AV → ASt → Prop} {S : ASt} (hl : args.length ≤ 77) (h : wpR Try.prog rc_34 (bodyQ [.t 4] K) (argF 0 args) S) : ACalls Try.prog 34 args S K := ACalls.of Try.func34 enA_34 kr_34 hl h

/-- slices.Grow(()byte,byte) -/
def rc_35 : RC :=
  .reg [⟨false, none, .mov (.c (.sl .nil 0 [])), some 4⟩] (.reg [⟨false, none, .mov (.t 1), some 5⟩,
  ⟨false, none, .bin .lss (.t 5) (.c (.int .i64 0)), some 6⟩] (.cond (.t 6) (.reg [⟨false, none, .iface 9 (.c (.str [99, 97, 110, 110, 111, 116, 32, 98, 101, 32, 110, 101, 103, 97, 116, 105, 118, 101])), some 7⟩,
  ⟨false, none, .no, none⟩] (.nop)) (.nop) (.reg [⟨false, none, .mov (.t 1), some 8⟩,
  ⟨false, none, .mov (.t 0), some 9⟩,
  ⟨false, none, .cap (.t 9), some 10⟩,
  ⟨false, none, .mov (.t 0), some 11⟩,
  ⟨false, none, .len (.t 11), some 12⟩,
  ⟨false, none, .bin .sub (.t 10) (.t 12), some 13⟩,
  ⟨false, none, .bin .sub (.t 8) (.t 13), some 14⟩,
  ⟨false, none, .mov (.t 14), some 1⟩] (.reg [⟨false, none, .mov (.t 1), some 15⟩,
  ⟨false, none, .bin .gtr (.t 15) (.c (.int .i64 0)), some 16⟩] (.cond (.t 16) (.reg [⟨false, none, .mov (.t 0), some 17⟩,
  ⟨false, none, .mov (.t 0), some 18⟩,
  ⟨false, none, .cap (.t 18), some 19⟩,
  ⟨false, none, .slice 1 (.t 17) none (some (.t 19)), some 20⟩,
  ⟨false, none, .mov (.t 1), some 21⟩,
  ⟨false, none, .appN 1 (.int .u8 0) (.t 20) (.t 21), some 22⟩,
  ⟨false, none, .mov (.t 0), some 23⟩,
  ⟨false, none, .len (.t 23), some 24⟩,
  ⟨false, none, .slice 1 (.t 22) none (some (.t 24)), some 25⟩,
  ⟨false, none, .mov (.t 25), some 0⟩] (.nop)) (.nop) (.reg [⟨false, none, .mov (.t 0), some 26⟩,
  ⟨false, none, .mov (.t 26), some 4⟩] (.ret)))))))
def hn_35 : Hn := { M := { own := fun _ => false, rb := fun _ => none, ord := fun _ => [] }, live := fun _ => [], ms := [] }
theorem kr_35 : rdy Try.prog hn_35 Try.f35 = some (rc_35, [.t 4], 27) := by kernel_rfl
theorem enA_35 : enterA Try.prog 35 = true := by kernel_rfl
theorem en_35 {args : List AV} {K : AV → ASt → Prop} {S : ASt} (hl : args.length ≤ 27) (h : wpR Try.prog rc_35 (bodyQ [.t 4] K) (argF 0 args) S) : ACalls Try.prog 35 args S K := ACalls.of Try.func35 enA_35 kr_35 hl h

/-- math/bits.Mul -/
def rc_36 : RC :=
  .reg [⟨false, none, .mov (.c (.int .u64 0)), some 4⟩,
  ⟨false, none, .mov (.c (.int .u64 0)), some 5⟩] (.cond (.c (.bool false)) (.reg [⟨false, none, .mov (.t 0), some 11⟩,
  ⟨false, none, .toInt .u32 (.t 11), some 12⟩,
  ⟨false, none, .mov (.t 1), some 13⟩,
  ⟨false, none, .toInt .u32 (.t 13), some 14⟩,
  ⟨false, none, .call 38 [.t 12, .t 14], some 15⟩,
  ⟨false, none, .mov (.t 15), some 10⟩,
  ⟨false, none, .ext (.t 10) 0, some 16⟩,
  ⟨false, none, .ext (.t 10) 1, some 17⟩,
  ⟨false, none, .mov (.t 16), some 6⟩,
  ⟨false, none, .mov (.t 17), some 7⟩] (.reg [⟨false, none, .mov (.t 6), some 18⟩,
  ⟨false, none, .toInt .u64 (.t 18), some 19⟩,
  ⟨false, none, .mov (.t 7), some 20⟩,
  ⟨false, none, .toInt .u64 (.t 20), some 21⟩,
  ⟨false, none, .mov (.t 19), some 4⟩,
  ⟨false, none, .mov (.t 21), some 5⟩] (.ret))) (.nop) (.reg [⟨false, none, .mov (.t 0), some 23⟩,
  ⟨false, none, .mov (.t 1), some 24⟩,
  ⟨false, none, .call 39 [.t 23, .t 24], some 25⟩,
  ⟨false, none, .mov (.t 25), some 22⟩,
  ⟨false, none, .ext (.t 22) 0, some 26⟩,
  ⟨false, none, .ext (.t 22) 1, some 27⟩,
  ⟨false, none, .mov (.t 26), some 8⟩,
  ⟨false, none, .mov (.t 27), some 9⟩] (.reg [⟨false, none, .mov (.t 8), some 28⟩,
  ⟨false, none, .mov (.t 9), some 29⟩,
  ⟨false, none, .mov (.t 28), some 4⟩,
  ⟨false, none, .mov (.t 29), some 5⟩] (.ret))))
def hn_36 : Hn := { M := { own := fun _ => false, rb := fun _ => none, ord := fun _ => [] }, live := fun _ => [], ms := [] }
theorem kr_36 : rdy Try.prog hn_36 Try.f36 = some (rc_36, [.t 4, .t 5], 30) := by kernel_rfl
theorem enA_36 : enterA Try.prog 36 = true := by kernel_rfl
theorem en_36 {args : List AV} {K : AV → ASt → Prop} {S : ASt} (hl : args.length ≤ 30) (h : wpR Try.prog rc_36 (bodyQ [.t 4, .t 5] K) (argF 0 args) S) : ACalls Try.prog 36 args S K := ACalls.of Try.func36 enA_36 kr_36 hl h

/-- math/bits.Mul32 -/
def rc_38 : RC :=
  .reg [⟨false, none, .mov (.c (.int .u32 0)), some 4⟩,
  ⟨false, none, .mov (.c (.int .u32 0)), some 5⟩] (.reg [⟨false, none, .mov (.t 0), some 7⟩,
  ⟨false, none, .toInt .u64 (.t 7), some 8⟩,
  ⟨false, none, .mov (.t 1), some 9⟩,
  ⟨false, none, .toInt .u64 (.t 9), some 10⟩,
  ⟨false, none, .bin .mul (.t 8) (.t 10), some 11⟩,
  ⟨false, none, .mov (.t 11), some 6⟩] (.reg [⟨false, none, .mov (.t 6), some 12⟩,
  ⟨false, none, .bin .shr (.t 12) (.c (.int .u64 32)), some 13⟩,
  ⟨false, none, .toInt .u32 (.t 13), some 14⟩,
  ⟨false, none, .mov (.t 6), some 15⟩,
  ⟨false, none, .toInt .u32 (.t 15), some 16⟩,
  ⟨false, none, .mov (.t 14), some 4⟩,
  ⟨false, none, .mov (.t 16), some 5⟩] (.ret)))
def hn_38 : Hn := { M := { own := fun _ => false, rb := fun _ => none, ord := fun _ => [] }, live := fun _ => [], ms := [] }
theorem kr_38 : rdy Try.prog hn_38 Try.f38 = some (rc_38, [.t 4, .t 5], 17) := by kernel_rfl
theorem enA_38 : enterA Try.prog 38 = true := by kernel_rfl
theorem en_38 {args : List AV} {K : AV → ASt → Prop} {S : ASt} (hl : args.length ≤ 17) (h : wpR Try.prog rc_38 (bodyQ [.t 4, .t 5] K) (argF 0 args) S) : ACalls Try.prog 38 args S K := ACalls.of Try.func38 enA_38 kr_38 hl h

/-- math/bits.Mul64 -/
def rc_39 : RC :=
  .reg [⟨false, none, .mov (.c (.int .u64 0)), some 4⟩,
  ⟨false, none, .mov (.c (.int .u64 0)), some 5⟩] (.reg [⟨false, none, .mov (.t 0), some 14⟩,
  ⟨false, none, .bin .and (.t 14) (.c (.int .u64 4294967295)), some 15⟩,
  ⟨false, none, .mov (.t 15), some 6⟩] (.reg [⟨false, none, .mov (.t 0), some 16⟩,
  ⟨false, none, .bin .shr (.t 16) (.c (.int .u64 32)), some 17⟩,
  ⟨false, none, .mov (.t 17), some 7⟩] (.reg [⟨false, none, .mov (.t 1), some 18⟩,
  ⟨false, none, .bin .and (.t 18) (.c (.int .u64 4294967295)), some 19⟩,
  ⟨false, none, .mov (.t 19), some 8⟩] (.reg [⟨false, none, .mov (.t 1), some 20⟩,
  ⟨false, none, .bin .shr (.t 20) (.c (.int .u64 32)), some 21⟩,
  ⟨false, none, .mov (.t 21), some 9⟩] (.reg [⟨false, none, .mov (.t 6), some 22⟩,
  ⟨false, none, .mov (.t 8), some 23⟩,
  ⟨false, none, .bin .mul (.t 22) (.t 23), some 24⟩,
  ⟨false, none, .mov (.t 24), some 10⟩] (.reg [⟨false, none, .mov (.t 7), some 25⟩,
  ⟨false, none, .mov (.t 8), some 26⟩,
  ⟨false, none, .bin .mul (.t 25) (.t 26), some 27⟩,
  ⟨false, none, .mov (.t 10), some 28⟩,
  ⟨false, none, .bin .shr (.t 28) (.c (.int .u64 32)), some 29⟩,
  ⟨false, none, .bin .add (.t 27) (.t 29), some 30⟩,
  ⟨false, none, .mov (.t 30), some 11⟩] (.reg [⟨false, none, .mov (.t 11), some 31⟩,
  ⟨false, none, .bin .and (.t 31) (.c (.int .u64 4294967295)), some 32⟩,
  ⟨false, none, .mov (.t 32), some 12⟩] (.reg [⟨false, none, .mov (.t 11), some 33⟩,
  ⟨false, none, .bin .shr (.t 33) (.c (.int .u64 32)), some 34⟩,
  ⟨false, none, .mov (.t 34), some 13⟩] (.reg [⟨false, none, .mov (.t 12), some 35⟩,
  ⟨false, none, .mov (.t 6), some 36⟩,
  ⟨false, none, .mov (.t 9), some 37⟩,
  ⟨false, none, .bin .mul (.t 36) (.t 37), some 38⟩,
  ⟨false, none, .bin .add (.t 35) (.t 38), some 39⟩,
  ⟨false, none, .mov (.t 39), some 12⟩] (.reg [⟨false, none, .mov (.t 7), some 40⟩,
  ⟨false, none, .mov (.t 9), some 41⟩,
  ⟨false, none, .bin .mul (.t 40) (.t 41), some 42⟩,
  ⟨false, none, .mov (.t 13), some 43⟩,
  ⟨false, none, .bin .add (.t 42) (.t 43), some 44⟩,
  ⟨false, none, .mov (.t 12), some 45⟩,
  ⟨false, none, .bin .shr (.t 45) (.c (.int .u64 32)), some 46⟩,
  ⟨false, none, .bin .add (.t 44) (.t 46), some 47⟩,
  ⟨false, none, .mov (.t 47), some 4⟩] (.reg [⟨false, none, .mov (.t 0), some 48⟩,
  ⟨false, none, .mov (.t 1), some 49⟩,
  ⟨false, none, .bin .mul (.t 48) (.t 49), some 50⟩,
  ⟨false, none, .mov (.t 50), some 5⟩] (.ret))))))))))))
def hn_39 : Hn := { M := { own := fun _ => false, rb := fun _ => none, ord := fun _ => [] }, live := fun _ => [], ms := [] }
theorem kr_39 : rdy Try.prog hn_39 Try.f39 = some (rc_39, [.t 4, .t 5], 51) := by kernel_rfl
theorem enA_39 : enterA Try.prog 39 = true := by kernel_rfl
theorem en_39 {args : List AV} {K : AV → ASt → Prop} {S : ASt} (hl : args.length ≤ 51) (h : wpR Try.prog rc_39 (bodyQ [.t 4, .t 5] K) (argF 0 args) S) : ACalls Try.prog 39 args S K := ACalls.of Try.func39 enA_39 kr_39 hl h

end Go.Proofs.Ytmfkocmbmadkmaa.Abs
