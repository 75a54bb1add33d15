/- The code of the functions, made ready for running. -/
import Derived.Test.YtffckkiboeiljaaVc5
import Derived.Test.YtffckkiboeiljaaProg
import Derived.KernelRfl
namespace Go.Proofs.Ytffckkiboeiljaa.Abs
open Go Go.Proofs
set_option maxRecDepth 100000
/-- salvor/salvorlaw5.TabRuns -/
def rc_3 : RC :=
  .reg [⟨false, none, .mov (.c (.bool false)), some 0⟩] (.reg [⟨false, none, .call 11 [], some 1⟩,
  ⟨false, none, .mkSl true 1 3 (.int .u8 0) [(0, .c (.int .u8 65)), (1, .c (.int .u8 49)), (2, .c (.int .u8 32))], some 2⟩,
  ⟨false, none, .frz (.t 2), some 3⟩,
  ⟨false, none, .call 10 [.t 1, .t 3], some 4⟩,
  ⟨false, none, .toStr (.t 4), some 5⟩,
  ⟨false, none, .bin .eql (.t 5) (.c (.str [193, 241, 64])), some 6⟩,
  ⟨false, none, .mov (.t 6), some 7⟩,
  ⟨false, (some (7, true)), .call 12 [], some 8⟩,
  ⟨false, (some (7, true)), .mkSl true 1 4 (.int .u8 0) [(0, .c (.int .u8 97)), (1, .c (.int .u8 122)), (2, .c (.int .u8 91)), (3, .c (.int .u8 255))], some 9⟩,
  ⟨false, (some (7, true)), .frz (.t 9), some 10⟩,
  ⟨false, (some (7, true)), .call 10 [.t 8, .t 10], some 11⟩,
  ⟨false, (some (7, true)), .toStr (.t 11), some 12⟩,
  ⟨false, (some (7, true)), .bin .eql (.t 12) (.c (.str [65, 90, 91, 255])), some 13⟩,
  ⟨false, none, .pick (.t 7) (.t 13) (.c (.bool false)), some 14⟩,
  ⟨false, none, .mov (.t 14), some 15⟩,
  ⟨false, (some (15, true)), .call 13 [], some 16⟩,
  ⟨false, (some (15, true)), .ixA 256 (.t 16) (.c (.int .i64 94)), some 17⟩,
  ⟨false, (some (15, true)), .bin .eql (.t 17) (.c (.int .u8 95)), some 18⟩,
  ⟨false, none, .pick (.t 15) (.t 18) (.c (.bool false)), some 19⟩,
  ⟨false, none, .mov (.t 19), some 20⟩,
  ⟨false, (some (20, true)), .call 14 [.c (.sl .nil 0 [])], some 21⟩,
  ⟨false, (some (20, true)), .ixA 256 (.t 21) (.c (.int .i64 7)), some 22⟩,
  ⟨false, (some (20, true)), .bin .eql (.t 22) (.c (.int .u8 7)), some 23⟩,
  ⟨false, none, .pick (.t 20) (.t 23) (.c (.bool false)), some 24⟩,
  ⟨false, none, .mov (.t 24), some 0⟩] (.ret))
def hn_3 : Hn := { M := { own := fun d => d == 2 || d == 9, rb := fun _ => none, ord := fun _ => [] }, live := fun _ => [], ms := [] }
theorem kr_3 : rdy Try.prog hn_3 Try.f3 = some (rc_3, [.t 0], 25) := by kernel_rfl
theorem enA_3 : enterA Try.prog 3 = true := by kernel_rfl
theorem en_3 {args : List AV} {K : AV → ASt → Prop} {S : ASt} (hl : args.length ≤ 25) (h : wpR Try.prog rc_3 (bodyQ [.t 0] K) (argF 0 args) S) : ACalls Try.prog 3 args S K := ACalls.of Try.func3 enA_3 kr_3 hl h

/-- salvor/salvorlaw5.TabMaps -/
def rc_4 : RC :=
  .reg [⟨false, none, .mov (.c (.bool false)), some 4⟩] (.reg [⟨false, none, .mov (.t 0), some 7⟩,
  ⟨false, none, .len (.t 7), some 8⟩,
  ⟨false, none, .bin .gtr (.t 8) (.c (.int .i64 6)), some 9⟩,
  ⟨false, none, .mov (.t 9), some 10⟩,
  ⟨false, (some (10, false)), .mov (.t 1), some 11⟩,
  ⟨false, (some (10, false)), .len (.t 11), some 12⟩,
  ⟨false, (some (10, false)), .bin .gtr (.t 12) (.c (.int .i64 1000)), some 13⟩,
  ⟨false, none, .pick (.t 10) (.c (.bool true)) (.t 13), some 14⟩] (.cond (.t 14) (.reg [⟨false, none, .call 3 [], some 15⟩,
  ⟨false, none, .mov (.t 15), some 4⟩] (.ret)) (.nop) (.reg [⟨false, none, .mov (.t 1), some 16⟩,
  ⟨false, none, .app 1 (.c (.sl .nil 0 [])) (.t 16), some 17⟩,
  ⟨false, none, .mov (.t 17), some 5⟩] (.reg [⟨false, none, .mov (.c (.int .i64 0)), some 6⟩] (.block 0 (.loop [0, 1, 5, 6] (.reg [⟨false, none, .mov (.t 6), some 18⟩,
  ⟨false, none, .mov (.t 0), some 19⟩,
  ⟨false, none, .len (.t 19), some 20⟩,
  ⟨false, none, .bin .lss (.t 18) (.t 20), some 21⟩] (.cond (.t 21) (.nop) (.exit 0) (.block 1 (.reg [⟨false, none, .mov (.t 0), some 24⟩,
  ⟨false, none, .mov (.t 6), some 25⟩,
  ⟨false, none, .idx 256 (.t 24) (.t 25), some 26⟩,
  ⟨false, none, .loadN 256 (.t 26), some 27⟩,
  ⟨false, none, .mov (.t 5), some 28⟩,
  ⟨false, none, .mov (.t 0), some 31⟩,
  ⟨false, none, .mov (.t 6), some 32⟩,
  ⟨false, none, .idx 256 (.t 31) (.t 32), some 33⟩,
  ⟨false, none, .loadN 256 (.t 33), some 34⟩,
  ⟨false, none, .mov (.t 5), some 35⟩,
  ⟨false, none, .call 10 [.t 27, .t 28], some 29⟩,
  ⟨true, none, .loadN 256 (.t 33), some 34⟩,
  ⟨true, none, .idx 256 (.t 31) (.t 32), some 33⟩,
  ⟨false, none, .toStr (.t 29), some 30⟩,
  ⟨false, none, .call 15 [.t 34, .t 35], some 36⟩,
  ⟨true, none, .toStr (.t 29), some 30⟩,
  ⟨false, none, .toStr (.t 36), some 37⟩,
  ⟨false, none, .bin .neq (.t 30) (.t 37), some 38⟩] (.cond (.t 38) (.reg [⟨false, none, .mov (.c (.bool false)), some 4⟩] (.ret)) (.nop) (.reg [⟨false, none, .mov (.t 0), some 39⟩,
  ⟨false, none, .mov (.t 6), some 40⟩,
  ⟨false, none, .idx 256 (.t 39) (.t 40), some 41⟩,
  ⟨false, none, .loadN 256 (.t 41), some 42⟩,
  ⟨false, none, .mov (.t 5), some 43⟩,
  ⟨false, none, .call 15 [.t 42, .t 43], some 44⟩,
  ⟨false, none, .mov (.t 44), some 5⟩] (.nop)))) (.reg [⟨false, none, .mov (.t 6), some 22⟩,
  ⟨false, none, .bin .add (.t 22) (.c (.int .i64 1)), some 23⟩,
  ⟨false, none, .mov (.t 23), some 6⟩] (.nop)))))) (.reg [⟨false, none, .mov (.t 0), some 45⟩,
  ⟨false, none, .mov (.t 1), some 47⟩,
  ⟨false, none, .mov (.t 5), some 50⟩,
  ⟨false, none, .toStr (.t 50), some 51⟩,
  ⟨false, none, .call 14 [.t 45], some 46⟩,
  ⟨true, none, .toStr (.t 50), some 51⟩,
  ⟨false, none, .call 10 [.t 46, .t 47], some 48⟩,
  ⟨true, none, .toStr (.t 50), some 51⟩,
  ⟨false, none, .toStr (.t 48), some 49⟩,
  ⟨false, none, .bin .eql (.t 49) (.t 51), some 52⟩,
  ⟨false, none, .mov (.t 52), some 53⟩,
  ⟨false, (some (53, true)), .call 3 [], some 54⟩,
  ⟨false, none, .pick (.t 53) (.t 54) (.c (.bool false)), some 55⟩,
  ⟨false, none, .mov (.t 55), some 4⟩] (.ret)))))))
def hn_4 : Hn := { M := { own := fun _ => false, rb := fun _ => none, ord := fun r => if r = 7 then [0, 1, 2, 3, 4, 7, 8, 9, 10, 11, 5, 6, 12, 13, 14] else if r = 10 then [0, 2, 5, 6, 1, 3, 4, 7, 8, 9, 10, 11] else [] }, live := fun r => if r = 5 then [0, 1, 5, 6] else [], ms := [] }
theorem kr_4 : rdy Try.prog hn_4 Try.f4 = some (rc_4, [.t 4], 56) := by kernel_rfl
theorem enA_4 : enterA Try.prog 4 = true := by kernel_rfl
theorem en_4 {args : List AV} {K : AV → ASt → Prop} {S : ASt} (hl : args.length ≤ 56) (h : wpR Try.prog rc_4 (bodyQ [.t 4] K) (argF 0 args) S) : ACalls Try.prog 4 args S K := ACalls.of Try.func4 enA_4 kr_4 hl h

/-- salvor/salvorlaw5.TabCodes -/
def rc_5 : RC :=
  .reg [⟨false, none, .mov (.c (.bool false)), some 2⟩] (.reg [⟨false, none, .call 11 [], some 6⟩,
  ⟨false, none, .call 13 [], some 7⟩,
  ⟨false, none, .alloc (List.replicate 256 (.int .u8 0)), some 3⟩,
  ⟨false, none, .alloc (List.replicate 256 (.int .u8 0)), some 4⟩,
  ⟨false, none, .st 256 (.t 3) (.t 6), none⟩,
  ⟨false, none, .st 256 (.t 4) (.t 7), none⟩] (.reg [⟨false, none, .mov (.c (.int .i64 (-1))), some 5⟩] (.block 0 (.reg [⟨false, none, .mov (.t 0), some 9⟩,
  ⟨false, none, .bin .geq (.t 9) (.c (.int .u8 48)), some 10⟩,
  ⟨false, none, .mov (.t 10), some 11⟩,
  ⟨false, (some (11, true)), .mov (.t 0), some 12⟩,
  ⟨false, (some (11, true)), .bin .leq (.t 12) (.c (.int .u8 57)), some 13⟩,
  ⟨false, none, .pick (.t 11) (.t 13) (.c (.bool false)), some 14⟩,
  ⟨false, none, .mov (.t 14), some 8⟩] (.cond (.t 8) (.reg [⟨false, none, .mov (.t 0), some 15⟩,
  ⟨false, none, .bin .sub (.t 15) (.c (.int .u8 48)), some 16⟩,
  ⟨false, none, .toInt .i64 (.t 16), some 17⟩,
  ⟨false, none, .bin .add (.c (.int .i64 240)) (.t 17), some 18⟩,
  ⟨false, none, .mov (.t 18), some 5⟩] (.nop)) (.reg [⟨false, none, .mov (.t 0), some 20⟩,
  ⟨false, none, .bin .geq (.t 20) (.c (.int .u8 97)), some 21⟩,
  ⟨false, none, .mov (.t 21), some 22⟩,
  ⟨false, (some (22, true)), .mov (.t 0), some 23⟩,
  ⟨false, (some (22, true)), .bin .leq (.t 23) (.c (.int .u8 105)), some 24⟩,
  ⟨false, none, .pick (.t 22) (.t 24) (.c (.bool false)), some 25⟩,
  ⟨false, none, .mov (.t 25), some 19⟩] (.cond (.t 19) (.reg [⟨false, none, .mov (.t 0), some 26⟩,
  ⟨false, none, .bin .sub (.t 26) (.c (.int .u8 97)), some 27⟩,
  ⟨false, none, .toInt .i64 (.t 27), some 28⟩,
  ⟨false, none, .bin .add (.c (.int .i64 129)) (.t 28), some 29⟩,
  ⟨false, none, .mov (.t 29), some 5⟩] (.nop)) (.reg [⟨false, none, .mov (.t 0), some 31⟩,
  ⟨false, none, .bin .geq (.t 31) (.c (.int .u8 106)), some 32⟩,
  ⟨false, none, .mov (.t 32), some 33⟩,
  ⟨false, (some (33, true)), .mov (.t 0), some 34⟩,
  ⟨false, (some (33, true)), .bin .leq (.t 34) (.c (.int .u8 114)), some 35⟩,
  ⟨false, none, .pick (.t 33) (.t 35) (.c (.bool false)), some 36⟩,
  ⟨false, none, .mov (.t 36), some 30⟩] (.cond (.t 30) (.reg [⟨false, none, .mov (.t 0), some 37⟩,
  ⟨false, none, .bin .sub (.t 37) (.c (.int .u8 106)), some 38⟩,
  ⟨false, none, .toInt .i64 (.t 38), some 39⟩,
  ⟨false, none, .bin .add (.c (.int .i64 145)) (.t 39), some 40⟩,
  ⟨false, none, .mov (.t 40), some 5⟩] (.nop)) (.reg [⟨false, none, .mov (.t 0), some 42⟩,
  ⟨false, none, .bin .geq (.t 42) (.c (.int .u8 115)), some 43⟩,
  ⟨false, none, .mov (.t 43), some 44⟩,
  ⟨false, (some (44, true)), .mov (.t 0), some 45⟩,
  ⟨false, (some (44, true)), .bin .leq (.t 45) (.c (.int .u8 122)), some 46⟩,
  ⟨false, none, .pick (.t 44) (.t 46) (.c (.bool false)), some 47⟩,
  ⟨false, none, .mov (.t 47), some 41⟩] (.cond (.t 41) (.reg [⟨false, none, .mov (.t 0), some 48⟩,
  ⟨false, none, .bin .sub (.t 48) (.c (.int .u8 115)), some 49⟩,
  ⟨false, none, .toInt .i64 (.t 49), some 50⟩,
  ⟨false, none, .bin .add (.c (.int .i64 162)) (.t 50), some 51⟩,
  ⟨false, none, .mov (.t 51), some 5⟩] (.nop)) (.reg [⟨false, none, .mov (.t 0), some 53⟩,
  ⟨false, none, .bin .geq (.t 53) (.c (.int .u8 65)), some 54⟩,
  ⟨false, none, .mov (.t 54), some 55⟩,
  ⟨false, (some (55, true)), .mov (.t 0), some 56⟩,
  ⟨false, (some (55, true)), .bin .leq (.t 56) (.c (.int .u8 73)), some 57⟩,
  ⟨false, none, .pick (.t 55) (.t 57) (.c (.bool false)), some 58⟩,
  ⟨false, none, .mov (.t 58), some 52⟩] (.cond (.t 52) (.reg [⟨false, none, .mov (.t 0), some 59⟩,
  ⟨false, none, .bin .sub (.t 59) (.c (.int .u8 65)), some 60⟩,
  ⟨false, none, .toInt .i64 (.t 60), some 61⟩,
  ⟨false, none, .bin .add (.c (.int .i64 193)) (.t 61), some 62⟩,
  ⟨false, none, .mov (.t 62), some 5⟩] (.nop)) (.reg [⟨false, none, .mov (.t 0), some 64⟩,
  ⟨false, none, .bin .geq (.t 64) (.c (.int .u8 74)), some 65⟩,
  ⟨false, none, .mov (.t 65), some 66⟩,
  ⟨false, (some (66, true)), .mov (.t 0), some 67⟩,
  ⟨false, (some (66, true)), .bin .leq (.t 67) (.c (.int .u8 82)), some 68⟩,
  ⟨false, none, .pick (.t 66) (.t 68) (.c (.bool false)), some 69⟩,
  ⟨false, none, .mov (.t 69), some 63⟩] (.cond (.t 63) (.reg [⟨false, none, .mov (.t 0), some 70⟩,
  ⟨false, none, .bin .sub (.t 70) (.c (.int .u8 74)), some 71⟩,
  ⟨false, none, .toInt .i64 (.t 71), some 72⟩,
  ⟨false, none, .bin .add (.c (.int .i64 209)) (.t 72), some 73⟩,
  ⟨false, none, .mov (.t 73), some 5⟩] (.nop)) (.reg [⟨false, none, .mov (.t 0), some 75⟩,
  ⟨false, none, .bin .geq (.t 75) (.c (.int .u8 83)), some 76⟩,
  ⟨false, none, .mov (.t 76), some 77⟩,
  ⟨false, (some (77, true)), .mov (.t 0), some 78⟩,
  ⟨false, (some (77, true)), .bin .leq (.t 78) (.c (.int .u8 90)), some 79⟩,
  ⟨false, none, .pick (.t 77) (.t 79) (.c (.bool false)), some 80⟩,
  ⟨false, none, .mov (.t 80), some 74⟩] (.cond (.t 74) (.reg [⟨false, none, .mov (.t 0), some 81⟩,
  ⟨false, none, .bin .sub (.t 81) (.c (.int .u8 83)), some 82⟩,
  ⟨false, none, .toInt .i64 (.t 82), some 83⟩,
  ⟨false, none, .bin .add (.c (.int .i64 226)) (.t 83), some 84⟩,
  ⟨false, none, .mov (.t 84), some 5⟩] (.nop)) (.reg [⟨false, none, .mov (.t 0), some 86⟩,
  ⟨false, none, .bin .eql (.t 86) (.c (.int .u8 94)), some 87⟩,
  ⟨false, none, .mov (.t 87), some 85⟩] (.cond (.t 85) (.reg [⟨false, none, .mov (.t 0), some 88⟩,
  ⟨false, none, .idxA 256 1 (.t 3) (.t 88), some 89⟩,
  ⟨false, none, .load (.t 89), some 90⟩,
  ⟨false, none, .bin .eql (.t 90) (.c (.int .u8 154)), some 91⟩,
  ⟨false, none, .mov (.t 91), some 92⟩,
  ⟨false, (some (92, true)), .mov (.t 0), some 93⟩,
  ⟨false, (some (92, true)), .idxA 256 1 (.t 4) (.t 93), some 94⟩,
  ⟨false, (some (92, true)), .load (.t 94), some 95⟩,
  ⟨false, (some (92, true)), .bin .eql (.t 95) (.c (.int .u8 95)), some 96⟩,
  ⟨false, none, .pick (.t 92) (.t 96) (.c (.bool false)), some 97⟩,
  ⟨false, none, .mov (.t 97), some 98⟩,
  ⟨false, (some (98, true)), .call 3 [], some 99⟩,
  ⟨false, none, .pick (.t 98) (.t 99) (.c (.bool false)), some 100⟩,
  ⟨false, none, .mov (.t 100), some 2⟩] (.ret)) (.reg [⟨false, none, .mov (.t 0), some 102⟩,
  ⟨false, none, .bin .eql (.t 102) (.c (.int .u8 126)), some 103⟩,
  ⟨false, none, .mov (.t 103), some 101⟩] (.cond (.t 101) (.reg [⟨false, none, .mov (.t 0), some 104⟩,
  ⟨false, none, .idxA 256 1 (.t 3) (.t 104), some 105⟩,
  ⟨false, none, .load (.t 105), some 106⟩,
  ⟨false, none, .bin .eql (.t 106) (.c (.int .u8 95)), some 107⟩,
  ⟨false, none, .mov (.t 107), some 108⟩,
  ⟨false, (some (108, true)), .mov (.t 0), some 109⟩,
  ⟨false, (some (108, true)), .idxA 256 1 (.t 4) (.t 109), some 110⟩,
  ⟨false, (some (108, true)), .load (.t 110), some 111⟩,
  ⟨false, (some (108, true)), .bin .eql (.t 111) (.c (.int .u8 161)), some 112⟩,
  ⟨false, none, .pick (.t 108) (.t 112) (.c (.bool false)), some 113⟩,
  ⟨false, none, .mov (.t 113), some 114⟩,
  ⟨false, (some (114, true)), .call 3 [], some 115⟩,
  ⟨false, none, .pick (.t 114) (.t 115) (.c (.bool false)), some 116⟩,
  ⟨false, none, .mov (.t 116), some 2⟩] (.ret)) (.nop) (.nop))) (.nop))) (.nop))) (.nop))) (.nop))) (.nop))) (.nop))) (.nop))) (.nop))) (.reg [⟨false, none, .mov (.t 5), some 117⟩,
  ⟨false, none, .bin .lss (.t 117) (.c (.int .i64 0)), some 118⟩,
  ⟨false, none, .mov (.t 118), some 119⟩,
  ⟨false, (some (119, false)), .mov (.t 0), some 120⟩,
  ⟨false, (some (119, false)), .idxA 256 1 (.t 3) (.t 120), some 121⟩,
  ⟨false, (some (119, false)), .load (.t 121), some 122⟩,
  ⟨false, (some (119, false)), .toInt .i64 (.t 122), some 123⟩,
  ⟨false, (some (119, false)), .mov (.t 5), some 124⟩,
  ⟨false, (some (119, false)), .bin .eql (.t 123) (.t 124), some 125⟩,
  ⟨false, (some (119, false)), .mov (.t 125), some 126⟩,
  ⟨false, (some (126, true)), .mov (.t 0), some 127⟩,
  ⟨false, (some (126, true)), .idxA 256 1 (.t 4) (.t 127), some 128⟩,
  ⟨false, (some (126, true)), .load (.t 128), some 129⟩,
  ⟨false, (some (126, true)), .toInt .i64 (.t 129), some 130⟩,
  ⟨false, (some (126, true)), .mov (.t 5), some 131⟩,
  ⟨false, (some (126, true)), .bin .eql (.t 130) (.t 131), some 132⟩,
  ⟨false, (some (119, false)), .pick (.t 126) (.t 132) (.c (.bool false)), some 133⟩,
  ⟨false, none, .pick (.t 119) (.c (.bool true)) (.t 133), some 134⟩,
  ⟨false, none, .mov (.t 134), some 135⟩,
  ⟨false, (some (135, true)), .call 3 [], some 136⟩,
  ⟨false, none, .pick (.t 135) (.t 136) (.c (.bool false)), some 137⟩,
  ⟨false, none, .mov (.t 137), some 2⟩] (.ret)))))
def hn_5 : Hn := { M := { own := fun _ => false, rb := fun _ => none, ord := fun _ => [] }, live := fun _ => [], ms := [] }
theorem kr_5 : rdy Try.prog hn_5 Try.f5 = some (rc_5, [.t 2], 138) := by kernel_rfl
theorem enA_5 : enterA Try.prog 5 = true := by kernel_rfl
theorem en_5 {args : List AV} {K : AV → ASt → Prop} {S : ASt} (hl : args.length ≤ 138) (h : wpR Try.prog rc_5 (bodyQ [.t 2] K) (argF 0 args) S) : ACalls Try.prog 5 args S K := ACalls.of Try.func5 enA_5 kr_5 hl h

/-- salvor/salvorlaw5.TabCase -/
def rc_6 : RC :=
  .reg [⟨false, none, .mov (.c (.bool false)), some 2⟩] (.reg [⟨false, none, .mov (.t 0), some 6⟩,
  ⟨false, none, .mov (.t 0), some 9⟩,
  ⟨false, none, .call 16 [], some 5⟩,
  ⟨false, none, .ixA 256 (.t 5) (.t 6), some 7⟩,
  ⟨false, none, .call 12 [], some 8⟩,
  ⟨false, none, .ixA 256 (.t 8) (.t 9), some 10⟩,
  ⟨false, none, .mov (.t 7), some 3⟩,
  ⟨false, none, .mov (.t 10), some 4⟩] (.block 0 (.reg [⟨false, none, .mov (.t 0), some 12⟩,
  ⟨false, none, .bin .geq (.t 12) (.c (.int .u8 97)), some 13⟩,
  ⟨false, none, .mov (.t 13), some 14⟩,
  ⟨false, (some (14, true)), .mov (.t 0), some 15⟩,
  ⟨false, (some (14, true)), .bin .leq (.t 15) (.c (.int .u8 122)), some 16⟩,
  ⟨false, none, .pick (.t 14) (.t 16) (.c (.bool false)), some 17⟩,
  ⟨false, none, .mov (.t 17), some 11⟩] (.cond (.t 11) (.reg [⟨false, none, .mov (.t 3), some 18⟩,
  ⟨false, none, .mov (.t 0), some 19⟩,
  ⟨false, none, .bin .eql (.t 18) (.t 19), some 20⟩,
  ⟨false, none, .mov (.t 20), some 21⟩,
  ⟨false, (some (21, true)), .mov (.t 4), some 22⟩,
  ⟨false, (some (21, true)), .mov (.t 0), some 23⟩,
  ⟨false, (some (21, true)), .bin .sub (.t 23) (.c (.int .u8 32)), some 24⟩,
  ⟨false, (some (21, true)), .bin .eql (.t 22) (.t 24), some 25⟩,
  ⟨false, none, .pick (.t 21) (.t 25) (.c (.bool false)), some 26⟩,
  ⟨false, none, .mov (.t 26), some 27⟩,
  ⟨false, (some (27, true)), .call 16 [], some 28⟩,
  ⟨false, (some (27, true)), .mov (.t 4), some 29⟩,
  ⟨false, (some (27, true)), .ixA 256 (.t 28) (.t 29), some 30⟩,
  ⟨false, (some (27, true)), .mov (.t 0), some 31⟩,
  ⟨false, (some (27, true)), .bin .eql (.t 30) (.t 31), some 32⟩,
  ⟨false, none, .pick (.t 27) (.t 32) (.c (.bool false)), some 33⟩,
  ⟨false, none, .mov (.t 33), some 34⟩,
  ⟨false, (some (34, true)), .call 3 [], some 35⟩,
  ⟨false, none, .pick (.t 34) (.t 35) (.c (.bool false)), some 36⟩,
  ⟨false, none, .mov (.t 36), some 2⟩] (.ret)) (.reg [⟨false, none, .mov (.t 0), some 38⟩,
  ⟨false, none, .bin .geq (.t 38) (.c (.int .u8 65)), some 39⟩,
  ⟨false, none, .mov (.t 39), some 40⟩,
  ⟨false, (some (40, true)), .mov (.t 0), some 41⟩,
  ⟨false, (some (40, true)), .bin .leq (.t 41) (.c (.int .u8 90)), some 42⟩,
  ⟨false, none, .pick (.t 40) (.t 42) (.c (.bool false)), some 43⟩,
  ⟨false, none, .mov (.t 43), some 37⟩] (.cond (.t 37) (.reg [⟨false, none, .mov (.t 4), some 44⟩,
  ⟨false, none, .mov (.t 0), some 45⟩,
  ⟨false, none, .bin .eql (.t 44) (.t 45), some 46⟩,
  ⟨false, none, .mov (.t 46), some 47⟩,
  ⟨false, (some (47, true)), .mov (.t 3), some 48⟩,
  ⟨false, (some (47, true)), .mov (.t 0), some 49⟩,
  ⟨false, (some (47, true)), .bin .add (.t 49) (.c (.int .u8 32)), some 50⟩,
  ⟨false, (some (47, true)), .bin .eql (.t 48) (.t 50), some 51⟩,
  ⟨false, none, .pick (.t 47) (.t 51) (.c (.bool false)), some 52⟩,
  ⟨false, none, .mov (.t 52), some 53⟩,
  ⟨false, (some (53, true)), .call 12 [], some 54⟩,
  ⟨false, (some (53, true)), .mov (.t 3), some 55⟩,
  ⟨false, (some (53, true)), .ixA 256 (.t 54) (.t 55), some 56⟩,
  ⟨false, (some (53, true)), .mov (.t 0), some 57⟩,
  ⟨false, (some (53, true)), .bin .eql (.t 56) (.t 57), some 58⟩,
  ⟨false, none, .pick (.t 53) (.t 58) (.c (.bool false)), some 59⟩,
  ⟨false, none, .mov (.t 59), some 60⟩,
  ⟨false, (some (60, true)), .call 3 [], some 61⟩,
  ⟨false, none, .pick (.t 60) (.t 61) (.c (.bool false)), some 62⟩,
  ⟨false, none, .mov (.t 62), some 2⟩] (.ret)) (.nop) (.nop))) (.nop))) (.reg [⟨false, none, .mov (.t 3), some 63⟩,
  ⟨false, none, .mov (.t 0), some 64⟩,
  ⟨false, none, .bin .eql (.t 63) (.t 64), some 65⟩,
  ⟨false, none, .mov (.t 65), some 66⟩,
  ⟨false, (some (66, true)), .mov (.t 4), some 67⟩,
  ⟨false, (some (66, true)), .mov (.t 0), some 68⟩,
  ⟨false, (some (66, true)), .bin .eql (.t 67) (.t 68), some 69⟩,
  ⟨false, none, .pick (.t 66) (.t 69) (.c (.bool false)), some 70⟩,
  ⟨false, none, .mov (.t 70), some 71⟩,
  ⟨false, (some (71, true)), .call 3 [], some 72⟩,
  ⟨false, none, .pick (.t 71) (.t 72) (.c (.bool false)), some 73⟩,
  ⟨false, none, .mov (.t 73), some 2⟩] (.ret))))
def hn_6 : Hn := { M := { own := fun _ => false, rb := fun _ => none, ord := fun r => if r = 1 then [1, 4, 0, 2, 3, 5, 6, 7] else [] }, live := fun _ => [], ms := [] }
theorem kr_6 : rdy Try.prog hn_6 Try.f6 = some (rc_6, [.t 2], 74) := by kernel_rfl
theorem enA_6 : enterA Try.prog 6 = true := by kernel_rfl
theorem en_6 {args : List AV} {K : AV → ASt → Prop} {S : ASt} (hl : args.length ≤ 74) (h : wpR Try.prog rc_6 (bodyQ [.t 2] K) (argF 0 args) S) : ACalls Try.prog 6 args S K := ACalls.of Try.func6 enA_6 kr_6 hl h

/-- salvor/salvorlaw5.TabBack -/
def rc_7 : RC :=
  .reg [⟨false, none, .mov (.c (.bool false)), some 2⟩] (.reg [⟨false, none, .mov (.t 0), some 5⟩,
  ⟨false, none, .len (.t 5), some 6⟩,
  ⟨false, none, .bin .gtr (.t 6) (.c (.int .i64 1000)), some 7⟩] (.cond (.t 7) (.reg [⟨false, none, .call 3 [], some 8⟩,
  ⟨false, none, .mov (.t 8), some 2⟩] (.ret)) (.nop) (.reg [⟨false, none, .call 11 [], some 9⟩,
  ⟨false, none, .call 17 [], some 10⟩,
  ⟨false, none, .mkSl false 256 2 (.agg (List.replicate 256 (.int .u8 0))) [(0, .t 9), (1, .t 10)], some 11⟩,
  ⟨false, none, .call 14 [.t 11], some 12⟩,
  ⟨false, none, .alloc (List.replicate 256 (.int .u8 0)), some 3⟩,
  ⟨false, none, .st 256 (.t 3) (.t 12), none⟩] (.reg [⟨false, none, .call 17 [], some 13⟩,
  ⟨false, none, .call 11 [], some 14⟩,
  ⟨false, none, .mkSl false 256 2 (.agg (List.replicate 256 (.int .u8 0))) [(0, .t 13), (1, .t 14)], some 15⟩,
  ⟨false, none, .call 14 [.t 15], some 16⟩,
  ⟨false, none, .alloc (List.replicate 256 (.int .u8 0)), some 4⟩,
  ⟨false, none, .st 256 (.t 4) (.t 16), none⟩] (.reg [⟨false, none, .loadN 256 (.t 3), some 17⟩,
  ⟨false, none, .mov (.t 0), some 18⟩,
  ⟨false, none, .mov (.t 0), some 21⟩,
  ⟨false, none, .toStr (.t 21), some 22⟩,
  ⟨false, none, .call 10 [.t 17, .t 18], some 19⟩,
  ⟨true, none, .toStr (.t 21), some 22⟩,
  ⟨false, none, .toStr (.t 19), some 20⟩,
  ⟨false, none, .bin .eql (.t 20) (.t 22), some 23⟩,
  ⟨false, none, .mov (.t 23), some 24⟩,
  ⟨false, (some (24, true)), .loadN 256 (.t 4), some 25⟩,
  ⟨false, (some (24, true)), .mov (.t 0), some 26⟩,
  ⟨false, (some (24, true)), .mov (.t 0), some 29⟩,
  ⟨false, (some (24, true)), .toStr (.t 29), some 30⟩,
  ⟨false, (some (24, true)), .call 10 [.t 25, .t 26], some 27⟩,
  ⟨true, (some (24, true)), .toStr (.t 29), some 30⟩,
  ⟨false, (some (24, true)), .toStr (.t 27), some 28⟩,
  ⟨false, (some (24, true)), .bin .eql (.t 28) (.t 30), some 31⟩,
  ⟨false, none, .pick (.t 24) (.t 31) (.c (.bool false)), some 32⟩,
  ⟨false, none, .mov (.t 32), some 33⟩,
  ⟨false, (some (33, true)), .loadN 256 (.t 3), some 34⟩,
  ⟨false, (some (33, true)), .loadN 256 (.t 4), some 35⟩,
  ⟨false, (some (33, true)), .eqa false (List.replicate 256 (6)) (.t 34) (.t 35), some 36⟩,
  ⟨false, none, .pick (.t 33) (.t 36) (.c (.bool false)), some 37⟩,
  ⟨false, none, .mov (.t 37), some 38⟩,
  ⟨false, (some (38, true)), .call 3 [], some 39⟩,
  ⟨false, none, .pick (.t 38) (.t 39) (.c (.bool false)), some 40⟩,
  ⟨false, none, .mov (.t 40), some 2⟩] (.ret))))))
def hn_7 : Hn := { M := { own := fun _ => false, rb := fun _ => none, ord := fun r => if r = 5 then [0, 1, 4, 5, 2, 3, 6, 7, 8, 9, 12, 13, 10, 11, 14, 15, 16, 17, 18, 19, 20, 21, 22, 23, 24] else [] }, live := fun _ => [], ms := [] }
theorem kr_7 : rdy Try.prog hn_7 Try.f7 = some (rc_7, [.t 2], 41) := by kernel_rfl
theorem enA_7 : enterA Try.prog 7 = true := by kernel_rfl
theorem en_7 {args : List AV} {K : AV → ASt → Prop} {S : ASt} (hl : args.length ≤ 41) (h : wpR Try.prog rc_7 (bodyQ [.t 2] K) (argF 0 args) S) : ACalls Try.prog 7 args S K := ACalls.of Try.func7 enA_7 kr_7 hl h

/-- salvor/salvorlaw5.TabOnce -/
def rc_8 : RC :=
  .reg [⟨false, none, .mov (.c (.bool false)), some 4⟩] (.reg [⟨false, none, .call 11 [], some 8⟩,
  ⟨false, none, .call 13 [], some 9⟩,
  ⟨false, none, .call 17 [], some 10⟩,
  ⟨false, none, .alloc (List.replicate 256 (.int .u8 0)), some 5⟩,
  ⟨false, none, .alloc (List.replicate 256 (.int .u8 0)), some 6⟩,
  ⟨false, none, .alloc (List.replicate 256 (.int .u8 0)), some 7⟩,
  ⟨false, none, .st 256 (.t 5) (.t 8), none⟩,
  ⟨false, none, .st 256 (.t 6) (.t 9), none⟩,
  ⟨false, none, .st 256 (.t 7) (.t 10), none⟩] (.reg [⟨false, none, .mov (.t 0), some 11⟩,
  ⟨false, none, .idxA 256 1 (.t 5) (.t 11), some 12⟩,
  ⟨false, none, .load (.t 12), some 13⟩,
  ⟨false, none, .mov (.t 1), some 14⟩,
  ⟨false, none, .idxA 256 1 (.t 5) (.t 14), some 15⟩,
  ⟨false, none, .load (.t 15), some 16⟩,
  ⟨false, none, .bin .eql (.t 13) (.t 16), some 17⟩,
  ⟨false, none, .mov (.t 0), some 18⟩,
  ⟨false, none, .mov (.t 1), some 19⟩,
  ⟨false, none, .bin .eql (.t 18) (.t 19), some 20⟩,
  ⟨false, none, .eqb false (.t 17) (.t 20), some 21⟩,
  ⟨false, none, .mov (.t 21), some 22⟩,
  ⟨false, (some (22, true)), .mov (.t 0), some 23⟩,
  ⟨false, (some (22, true)), .idxA 256 1 (.t 6) (.t 23), some 24⟩,
  ⟨false, (some (22, true)), .load (.t 24), some 25⟩,
  ⟨false, (some (22, true)), .mov (.t 1), some 26⟩,
  ⟨false, (some (22, true)), .idxA 256 1 (.t 6) (.t 26), some 27⟩,
  ⟨false, (some (22, true)), .load (.t 27), some 28⟩,
  ⟨false, (some (22, true)), .bin .eql (.t 25) (.t 28), some 29⟩,
  ⟨false, (some (22, true)), .mov (.t 0), some 30⟩,
  ⟨false, (some (22, true)), .mov (.t 1), some 31⟩,
  ⟨false, (some (22, true)), .bin .eql (.t 30) (.t 31), some 32⟩,
  ⟨false, (some (22, true)), .eqb false (.t 29) (.t 32), some 33⟩,
  ⟨false, none, .pick (.t 22) (.t 33) (.c (.bool false)), some 34⟩,
  ⟨false, none, .mov (.t 34), some 35⟩,
  ⟨false, (some (35, true)), .mov (.t 0), some 36⟩,
  ⟨false, (some (35, true)), .idxA 256 1 (.t 7) (.t 36), some 37⟩,
  ⟨false, (some (35, true)), .load (.t 37), some 38⟩,
  ⟨false, (some (35, true)), .mov (.t 1), some 39⟩,
  ⟨false, (some (35, true)), .idxA 256 1 (.t 7) (.t 39), some 40⟩,
  ⟨false, (some (35, true)), .load (.t 40), some 41⟩,
  ⟨false, (some (35, true)), .bin .eql (.t 38) (.t 41), some 42⟩,
  ⟨false, (some (35, true)), .mov (.t 0), some 43⟩,
  ⟨false, (some (35, true)), .mov (.t 1), some 44⟩,
  ⟨false, (some (35, true)), .bin .eql (.t 43) (.t 44), some 45⟩,
  ⟨false, (some (35, true)), .eqb false (.t 42) (.t 45), some 46⟩,
  ⟨false, none, .pick (.t 35) (.t 46) (.c (.bool false)), some 47⟩,
  ⟨false, none, .mov (.t 47), some 48⟩,
  ⟨false, (some (48, true)), .call 3 [], some 49⟩,
  ⟨false, none, .pick (.t 48) (.t 49) (.c (.bool false)), some 50⟩,
  ⟨false, none, .mov (.t 50), some 4⟩] (.ret)))
def hn_8 : Hn := { M := { own := fun _ => false, rb := fun _ => none, ord := fun r => if r = 2 then [0, 1, 2, 3, 4, 5, 6, 7, 8, 9, 10, 11, 12, 13, 14, 15, 16, 17, 18, 19, 20, 21, 22, 23, 24, 25, 26, 27, 28, 29, 30, 31, 32, 33, 34, 35, 36, 37, 38, 39, 40] else [] }, live := fun _ => [], ms := [] }
theorem kr_8 : rdy Try.prog hn_8 Try.f8 = some (rc_8, [.t 4], 51) := by kernel_rfl
theorem enA_8 : enterA Try.prog 8 = true := by kernel_rfl
theorem en_8 {args : List AV} {K : AV → ASt → Prop} {S : ASt} (hl : args.length ≤ 51) (h : wpR Try.prog rc_8 (bodyQ [.t 4] K) (argF 0 args) S) : ACalls Try.prog 8 args S K := ACalls.of Try.func8 enA_8 kr_8 hl h

/-- salvor/salvorlaw5.TabAll -/
def rc_9 : RC :=
  .reg [⟨false, none, .mov (.c (.bool false)), some 0⟩] (.reg [⟨false, none, .call 16 [], some 1⟩,
  ⟨false, none, .call 18 [], some 2⟩,
  ⟨false, none, .eqa false (List.replicate 256 (6)) (.t 1) (.t 2), some 3⟩,
  ⟨false, none, .mov (.t 3), some 4⟩,
  ⟨false, (some (4, true)), .call 12 [], some 5⟩,
  ⟨false, (some (4, true)), .call 19 [], some 6⟩,
  ⟨false, (some (4, true)), .eqa false (List.replicate 256 (6)) (.t 5) (.t 6), some 7⟩,
  ⟨false, none, .pick (.t 4) (.t 7) (.c (.bool false)), some 8⟩,
  ⟨false, none, .mov (.t 8), some 9⟩,
  ⟨false, (some (9, true)), .call 11 [], some 10⟩,
  ⟨false, (some (9, true)), .call 20 [], some 11⟩,
  ⟨false, (some (9, true)), .eqa false (List.replicate 256 (6)) (.t 10) (.t 11), some 12⟩,
  ⟨false, none, .pick (.t 9) (.t 12) (.c (.bool false)), some 13⟩,
  ⟨false, none, .mov (.t 13), some 14⟩,
  ⟨false, (some (14, true)), .call 13 [], some 15⟩,
  ⟨false, (some (14, true)), .call 21 [], some 16⟩,
  ⟨false, (some (14, true)), .eqa false (List.replicate 256 (6)) (.t 15) (.t 16), some 17⟩,
  ⟨false, none, .pick (.t 14) (.t 17) (.c (.bool false)), some 18⟩,
  ⟨false, none, .mov (.t 18), some 19⟩,
  ⟨false, (some (19, true)), .call 17 [], some 20⟩,
  ⟨false, (some (19, true)), .call 22 [], some 21⟩,
  ⟨false, (some (19, true)), .eqa false (List.replicate 256 (6)) (.t 20) (.t 21), some 22⟩,
  ⟨false, none, .pick (.t 19) (.t 22) (.c (.bool false)), some 23⟩,
  ⟨false, none, .mov (.t 23), some 24⟩,
  ⟨false, (some (24, true)), .call 3 [], some 25⟩,
  ⟨false, none, .pick (.t 24) (.t 25) (.c (.bool false)), some 26⟩,
  ⟨false, none, .mov (.t 26), some 0⟩] (.ret))
def hn_9 : Hn := { M := { own := fun _ => false, rb := fun _ => none, ord := fun _ => [] }, live := fun _ => [], ms := [] }
theorem kr_9 : rdy Try.prog hn_9 Try.f9 = some (rc_9, [.t 0], 27) := by kernel_rfl
theorem enA_9 : enterA Try.prog 9 = true := by kernel_rfl
theorem en_9 {args : List AV} {K : AV → ASt → Prop} {S : ASt} (hl : args.length ≤ 27) (h : wpR Try.prog rc_9 (bodyQ [.t 0] K) (argF 0 args) S) : ACalls Try.prog 9 args S K := ACalls.of Try.func9 enA_9 kr_9 hl h

/-- salvor/tab.Map -/
def rc_10 : RC :=
  .reg [⟨false, none, .box (.t 0), some 2⟩,
  ⟨false, none, .mov (.c (.sl .nil 0 [])), some 4⟩] (.reg [⟨false, none, .mov (.c (.sl .nil 0 [])), some 5⟩] (.reg [⟨false, none, .mov (.t 1), some 8⟩,
  ⟨false, none, .len (.t 8), some 9⟩,
  ⟨false, none, .mov (.c (.int .i64 0)), some 10⟩] (.block 0 (.loop [2, 5, 8, 9, 10] (.reg [⟨false, none, .bin .lss (.t 10) (.t 9), some 11⟩] (.cond (.t 11) (.nop) (.exit 0) (.block 1 (.reg [⟨false, none, .idx 1 (.t 8) (.t 10), some 12⟩,
  ⟨false, none, .load (.t 12), some 13⟩,
  ⟨false, none, .mov (.t 13), some 7⟩] (.reg [⟨false, none, .mov (.t 5), some 14⟩,
  ⟨false, none, .mov (.t 7), some 15⟩,
  ⟨false, none, .idxA 256 1 (.t 2) (.t 15), some 16⟩,
  ⟨false, none, .load (.t 16), some 17⟩,
  ⟨false, none, .mkSl false 1 1 (.int .u8 0) [(0, .t 17)], some 18⟩,
  ⟨false, none, .app 1 (.t 14) (.t 18), some 19⟩,
  ⟨false, none, .mov (.t 19), some 5⟩] (.nop))) (.reg [⟨false, none, .bin .add (.t 10) (.c (.int .i64 1)), some 20⟩,
  ⟨false, none, .mov (.t 20), some 10⟩] (.nop)))))) (.reg [⟨false, none, .mov (.t 5), some 21⟩,
  ⟨false, none, .mov (.t 21), some 4⟩] (.ret)))))
def hn_10 : Hn := { M := { own := fun _ => false, rb := fun _ => none, ord := fun _ => [] }, live := fun r => if r = 3 then [2, 5, 8, 9, 10] else [], ms := [] }
theorem kr_10 : rdy Try.prog hn_10 Try.f10 = some (rc_10, [.t 4], 22) := by kernel_rfl
theorem enA_10 : enterA Try.prog 10 = true := by kernel_rfl
theorem en_10 {args : List AV} {K : AV → ASt → Prop} {S : ASt} (hl : args.length ≤ 22) (h : wpR Try.prog rc_10 (bodyQ [.t 4] K) (argF 0 args) S) : ACalls Try.prog 10 args S K := ACalls.of Try.func10 enA_10 kr_10 hl h

/-- salvor/tab.Ebcdic -/
def rc_11 : RC :=
  .reg [⟨false, none, .alloc (List.replicate 256 (.int .u8 0)), some 0⟩] (.reg [⟨false, none, .call 24 [], some 1⟩,
  ⟨false, none, .build ([.int .i64 0, .int .i64 0, .int .i64 0]) [(0, 1), (1, 1), (2, 1)] [(0, .c (.int .i64 94)), (1, .c (.int .i64 154)), (2, .c (.int .i64 1))], some 2⟩,
  ⟨false, none, .build ([.int .i64 0, .int .i64 0, .int .i64 0]) [(0, 1), (1, 1), (2, 1)] [(0, .c (.int .i64 126)), (1, .c (.int .i64 95)), (2, .c (.int .i64 1))], some 3⟩,
  ⟨false, none, .mkSl false 3 2 (.agg ([.int .i64 0, .int .i64 0, .int .i64 0])) [(0, .t 2), (1, .t 3)], some 4⟩,
  ⟨false, none, .app 3 (.t 1) (.t 4), some 5⟩,
  ⟨false, none, .call 23 [.t 5], some 6⟩,
  ⟨false, none, .st 256 (.t 0) (.t 6), none⟩] (.ret))
def hn_11 : Hn := { M := { own := fun _ => false, rb := fun _ => none, ord := fun _ => [] }, live := fun _ => [], ms := [] }
theorem kr_11 : rdy Try.prog hn_11 Try.f11 = some (rc_11, [.cellN 0 256], 7) := by kernel_rfl
theorem enA_11 : enterA Try.prog 11 = true := by kernel_rfl
theorem en_11 {args : List AV} {K : AV → ASt → Prop} {S : ASt} (hl : args.length ≤ 7) (h : wpR Try.prog rc_11 (bodyQ [.cellN 0 256] K) (argF 0 args) S) : ACalls Try.prog 11 args S K := ACalls.of Try.func11 enA_11 kr_11 hl h

/-- salvor/tab.Upper -/
def rc_12 : RC :=
  .reg [⟨false, none, .alloc (List.replicate 256 (.int .u8 0)), some 0⟩] (.reg [⟨false, none, .call 25 [.c (.int .u8 97), .c (.int .u8 65)], some 1⟩,
  ⟨false, none, .st 256 (.t 0) (.t 1), none⟩] (.ret))
def hn_12 : Hn := { M := { own := fun _ => false, rb := fun _ => none, ord := fun _ => [] }, live := fun _ => [], ms := [] }
theorem kr_12 : rdy Try.prog hn_12 Try.f12 = some (rc_12, [.cellN 0 256], 2) := by kernel_rfl
theorem enA_12 : enterA Try.prog 12 = true := by kernel_rfl
theorem en_12 {args : List AV} {K : AV → ASt → Prop} {S : ASt} (hl : args.length ≤ 2) (h : wpR Try.prog rc_12 (bodyQ [.cellN 0 256] K) (argF 0 args) S) : ACalls Try.prog 12 args S K := ACalls.of Try.func12 enA_12 kr_12 hl h

/-- salvor/tab.Ibm -/
def rc_13 : RC :=
  .reg [⟨false, none, .alloc (List.replicate 256 (.int .u8 0)), some 0⟩] (.reg [⟨false, none, .call 24 [], some 1⟩,
  ⟨false, none, .build ([.int .i64 0, .int .i64 0, .int .i64 0]) [(0, 1), (1, 1), (2, 1)] [(0, .c (.int .i64 94)), (1, .c (.int .i64 95)), (2, .c (.int .i64 1))], some 2⟩,
  ⟨false, none, .build ([.int .i64 0, .int .i64 0, .int .i64 0]) [(0, 1), (1, 1), (2, 1)] [(0, .c (.int .i64 126)), (1, .c (.int .i64 161)), (2, .c (.int .i64 1))], some 3⟩,
  ⟨false, none, .mkSl false 3 2 (.agg ([.int .i64 0, .int .i64 0, .int .i64 0])) [(0, .t 2), (1, .t 3)], some 4⟩,
  ⟨false, none, .app 3 (.t 1) (.t 4), some 5⟩,
  ⟨false, none, .call 23 [.t 5], some 6⟩,
  ⟨false, none, .st 256 (.t 0) (.t 6), none⟩] (.ret))
def hn_13 : Hn := { M := { own := fun _ => false, rb := fun _ => none, ord := fun _ => [] }, live := fun _ => [], ms := [] }
theorem kr_13 : rdy Try.prog hn_13 Try.f13 = some (rc_13, [.cellN 0 256], 7) := by kernel_rfl
theorem enA_13 : enterA Try.prog 13 = true := by kernel_rfl
theorem en_13 {args : List AV} {K : AV → ASt → Prop} {S : ASt} (hl : args.length ≤ 7) (h : wpR Try.prog rc_13 (bodyQ [.cellN 0 256] K) (argF 0 args) S) : ACalls Try.prog 13 args S K := ACalls.of Try.func13 enA_13 kr_13 hl h

/-- salvor/tab.Then -/
def rc_14 : RC :=
  .reg [⟨false, none, .alloc (List.replicate 256 (.int .u8 0)), some 2⟩] (.reg [⟨false, none, .call 26 [], some 7⟩,
  ⟨false, none, .alloc (List.replicate 256 (.int .u8 0)), some 3⟩,
  ⟨false, none, .st 256 (.t 3) (.t 7), none⟩] (.reg [⟨false, none, .mov (.t 0), some 8⟩,
  ⟨false, none, .len (.t 8), some 9⟩,
  ⟨false, none, .mov (.c (.int .i64 0)), some 10⟩] (.block 0 (.loop [2, 3, 8, 9, 10] (.reg [⟨false, none, .bin .lss (.t 10) (.t 9), some 11⟩] (.cond (.t 11) (.nop) (.exit 0) (.block 1 (.reg [⟨false, none, .idx 256 (.t 8) (.t 10), some 12⟩,
  ⟨false, none, .loadN 256 (.t 12), some 13⟩,
  ⟨false, none, .alloc (List.replicate 256 (.int .u8 0)), some 5⟩,
  ⟨false, none, .st 256 (.t 5) (.t 13), none⟩] (.reg [⟨false, none, .mov (.c (.int .i64 0)), some 14⟩] (.block 2 (.loop [2, 3, 5, 8, 9, 10, 14] (.reg [⟨false, none, .bin .lss (.t 14) (.c (.int .i64 256)), some 15⟩] (.cond (.t 15) (.nop) (.exit 2) (.block 3 (.reg [⟨false, none, .mov (.t 14), some 16⟩,
  ⟨false, none, .mov (.t 16), some 6⟩] (.reg [⟨false, none, .mov (.t 6), some 17⟩,
  ⟨false, none, .mov (.t 6), some 18⟩,
  ⟨false, none, .idxA 256 1 (.t 3) (.t 18), some 19⟩,
  ⟨false, none, .load (.t 19), some 20⟩,
  ⟨false, none, .idxA 256 1 (.t 5) (.t 20), some 21⟩,
  ⟨false, none, .load (.t 21), some 22⟩,
  ⟨false, none, .idxA 256 1 (.t 3) (.t 17), some 23⟩,
  ⟨false, none, .st 1 (.t 23) (.t 22), none⟩] (.nop))) (.reg [⟨false, none, .bin .add (.t 14) (.c (.int .i64 1)), some 24⟩,
  ⟨false, none, .mov (.t 24), some 14⟩] (.nop)))))) (.nop)))) (.reg [⟨false, none, .bin .add (.t 10) (.c (.int .i64 1)), some 25⟩,
  ⟨false, none, .mov (.t 25), some 10⟩] (.nop)))))) (.reg [⟨false, none, .loadN 256 (.t 3), some 26⟩,
  ⟨false, none, .st 256 (.t 2) (.t 26), none⟩] (.ret)))))
def hn_14 : Hn := { M := { own := fun _ => false, rb := fun _ => none, ord := fun _ => [] }, live := fun r => if r = 3 then [2, 3, 8, 9, 10] else if r = 6 then [2, 3, 5, 8, 9, 10, 14] else [], ms := [] }
theorem kr_14 : rdy Try.prog hn_14 Try.f14 = some (rc_14, [.cellN 2 256], 27) := by kernel_rfl
theorem enA_14 : enterA Try.prog 14 = true := by kernel_rfl
theorem en_14 {args : List AV} {K : AV → ASt → Prop} {S : ASt} (hl : args.length ≤ 27) (h : wpR Try.prog rc_14 (bodyQ [.cellN 2 256] K) (argF 0 args) S) : ACalls Try.prog 14 args S K := ACalls.of Try.func14 enA_14 kr_14 hl h

/-- salvor/salvorref1.Map -/
def rc_15 : RC :=
  .reg [⟨false, none, .box (.t 0), some 2⟩,
  ⟨false, none, .mov (.c (.sl .nil 0 [])), some 4⟩] (.reg [⟨false, none, .mov (.c (.sl .nil 0 [])), some 5⟩] (.reg [⟨false, none, .mov (.c (.int .i64 0)), some 6⟩] (.block 0 (.loop [1, 2, 5, 6] (.reg [⟨false, none, .mov (.t 6), some 7⟩,
  ⟨false, none, .mov (.t 1), some 8⟩,
  ⟨false, none, .len (.t 8), some 9⟩,
  ⟨false, none, .bin .lss (.t 7) (.t 9), some 10⟩] (.cond (.t 10) (.nop) (.exit 0) (.block 1 (.reg [⟨false, none, .mov (.t 5), some 13⟩,
  ⟨false, none, .mov (.t 1), some 14⟩,
  ⟨false, none, .mov (.t 6), some 15⟩,
  ⟨false, none, .idx 1 (.t 14) (.t 15), some 16⟩,
  ⟨false, none, .load (.t 16), some 17⟩,
  ⟨false, none, .idxA 256 1 (.t 2) (.t 17), some 18⟩,
  ⟨false, none, .load (.t 18), some 19⟩,
  ⟨false, none, .mkSl false 1 1 (.int .u8 0) [(0, .t 19)], some 20⟩,
  ⟨false, none, .app 1 (.t 13) (.t 20), some 21⟩,
  ⟨false, none, .mov (.t 21), some 5⟩] (.nop)) (.reg [⟨false, none, .mov (.t 6), some 11⟩,
  ⟨false, none, .bin .add (.t 11) (.c (.int .i64 1)), some 12⟩,
  ⟨false, none, .mov (.t 12), some 6⟩] (.nop)))))) (.reg [⟨false, none, .mov (.t 5), some 22⟩,
  ⟨false, none, .mov (.t 22), some 4⟩] (.ret)))))
def hn_15 : Hn := { M := { own := fun _ => false, rb := fun _ => none, ord := fun _ => [] }, live := fun r => if r = 3 then [1, 2, 5, 6] else [], ms := [] }
theorem kr_15 : rdy Try.prog hn_15 Try.f15 = some (rc_15, [.t 4], 23) := by kernel_rfl
theorem enA_15 : enterA Try.prog 15 = true := by kernel_rfl
theorem en_15 {args : List AV} {K : AV → ASt → Prop} {S : ASt} (hl : args.length ≤ 23) (h : wpR Try.prog rc_15 (bodyQ [.t 4] K) (argF 0 args) S) : ACalls Try.prog 15 args S K := ACalls.of Try.func15 enA_15 kr_15 hl h

/-- salvor/tab.Lower -/
def rc_16 : RC :=
  .reg [⟨false, none, .alloc (List.replicate 256 (.int .u8 0)), some 0⟩] (.reg [⟨false, none, .call 25 [.c (.int .u8 65), .c (.int .u8 97)], some 1⟩,
  ⟨false, none, .st 256 (.t 0) (.t 1), none⟩] (.ret))
def hn_16 : Hn := { M := { own := fun _ => false, rb := fun _ => none, ord := fun _ => [] }, live := fun _ => [], ms := [] }
theorem kr_16 : rdy Try.prog hn_16 Try.f16 = some (rc_16, [.cellN 0 256], 2) := by kernel_rfl
theorem enA_16 : enterA Try.prog 16 = true := by kernel_rfl
theorem en_16 {args : List AV} {K : AV → ASt → Prop} {S : ASt} (hl : args.length ≤ 2) (h : wpR Try.prog rc_16 (bodyQ [.cellN 0 256] K) (argF 0 args) S) : ACalls Try.prog 16 args S K := ACalls.of Try.func16 enA_16 kr_16 hl h

/-- salvor/tab.Ascii -/
def rc_17 : RC :=
  .reg [⟨false, none, .alloc (List.replicate 256 (.int .u8 0)), some 0⟩] (.reg [⟨false, none, .alloc (List.replicate 256 (.int .u8 0)), some 1⟩] (.reg [⟨false, none, .call 11 [], some 4⟩,
  ⟨false, none, .mov (.c (.int .i64 0)), some 5⟩] (.block 0 (.loop [0, 1, 4, 5] (.reg [⟨false, none, .bin .lss (.t 5) (.c (.int .i64 256)), some 6⟩] (.cond (.t 6) (.nop) (.exit 0) (.block 1 (.reg [⟨false, none, .mov (.t 5), some 7⟩,
  ⟨false, none, .ixA 256 (.t 4) (.t 5), some 8⟩,
  ⟨false, none, .mov (.t 7), some 2⟩,
  ⟨false, none, .mov (.t 8), some 3⟩] (.reg [⟨false, none, .mov (.t 3), some 9⟩,
  ⟨false, none, .mov (.t 2), some 10⟩,
  ⟨false, none, .toInt .u8 (.t 10), some 11⟩,
  ⟨false, none, .idxA 256 1 (.t 1) (.t 9), some 12⟩,
  ⟨false, none, .st 1 (.t 12) (.t 11), none⟩] (.nop))) (.reg [⟨false, none, .bin .add (.t 5) (.c (.int .i64 1)), some 13⟩,
  ⟨false, none, .mov (.t 13), some 5⟩] (.nop)))))) (.reg [⟨false, none, .loadN 256 (.t 1), some 14⟩,
  ⟨false, none, .st 256 (.t 0) (.t 14), none⟩] (.ret)))))
def hn_17 : Hn := { M := { own := fun _ => false, rb := fun _ => none, ord := fun _ => [] }, live := fun r => if r = 3 then [0, 1, 4, 5] else [], ms := [] }
theorem kr_17 : rdy Try.prog hn_17 Try.f17 = some (rc_17, [.cellN 0 256], 15) := by kernel_rfl
theorem enA_17 : enterA Try.prog 17 = true := by kernel_rfl
theorem en_17 {args : List AV} {K : AV → ASt → Prop} {S : ASt} (hl : args.length ≤ 15) (h : wpR Try.prog rc_17 (bodyQ [.cellN 0 256] K) (argF 0 args) S) : ACalls Try.prog 17 args S K := ACalls.of Try.func17 enA_17 kr_17 hl h

/-- salvor/salvorref1.Lower -/
def rc_18 : RC :=
  .reg [⟨false, none, .alloc (List.replicate 256 (.int .u8 0)), some 0⟩] (.reg [⟨false, none, .call 27 [], some 3⟩,
  ⟨false, none, .alloc (List.replicate 256 (.int .u8 0)), some 1⟩,
  ⟨false, none, .st 256 (.t 1) (.t 3), none⟩] (.reg [⟨false, none, .mov (.c (.int .i64 0)), some 2⟩] (.block 0 (.loop [0, 1, 2] (.reg [⟨false, none, .mov (.t 2), some 4⟩,
  ⟨false, none, .bin .lss (.t 4) (.c (.int .i64 26)), some 5⟩] (.cond (.t 5) (.nop) (.exit 0) (.block 1 (.reg [⟨false, none, .mov (.t 2), some 8⟩,
  ⟨false, none, .bin .add (.c (.int .i64 65)) (.t 8), some 9⟩,
  ⟨false, none, .mov (.t 2), some 10⟩,
  ⟨false, none, .bin .add (.c (.int .i64 97)) (.t 10), some 11⟩,
  ⟨false, none, .toInt .u8 (.t 11), some 12⟩,
  ⟨false, none, .idxA 256 1 (.t 1) (.t 9), some 13⟩,
  ⟨false, none, .st 1 (.t 13) (.t 12), none⟩] (.nop)) (.reg [⟨false, none, .mov (.t 2), some 6⟩,
  ⟨false, none, .bin .add (.t 6) (.c (.int .i64 1)), some 7⟩,
  ⟨false, none, .mov (.t 7), some 2⟩] (.nop)))))) (.reg [⟨false, none, .loadN 256 (.t 1), some 14⟩,
  ⟨false, none, .st 256 (.t 0) (.t 14), none⟩] (.ret)))))
def hn_18 : Hn := { M := { own := fun _ => false, rb := fun _ => none, ord := fun _ => [] }, live := fun r => if r = 3 then [0, 1, 2] else [], ms := [] }
theorem kr_18 : rdy Try.prog hn_18 Try.f18 = some (rc_18, [.cellN 0 256], 15) := by kernel_rfl
theorem enA_18 : enterA Try.prog 18 = true := by kernel_rfl
theorem en_18 {args : List AV} {K : AV → ASt → Prop} {S : ASt} (hl : args.length ≤ 15) (h : wpR Try.prog rc_18 (bodyQ [.cellN 0 256] K) (argF 0 args) S) : ACalls Try.prog 18 args S K := ACalls.of Try.func18 enA_18 kr_18 hl h

/-- salvor/salvorref1.Upper -/
def rc_19 : RC :=
  .reg [⟨false, none, .alloc (List.replicate 256 (.int .u8 0)), some 0⟩] (.reg [⟨false, none, .call 27 [], some 3⟩,
  ⟨false, none, .alloc (List.replicate 256 (.int .u8 0)), some 1⟩,
  ⟨false, none, .st 256 (.t 1) (.t 3), none⟩] (.reg [⟨false, none, .mov (.c (.int .i64 0)), some 2⟩] (.block 0 (.loop [0, 1, 2] (.reg [⟨false, none, .mov (.t 2), some 4⟩,
  ⟨false, none, .bin .lss (.t 4) (.c (.int .i64 26)), some 5⟩] (.cond (.t 5) (.nop) (.exit 0) (.block 1 (.reg [⟨false, none, .mov (.t 2), some 8⟩,
  ⟨false, none, .bin .add (.c (.int .i64 97)) (.t 8), some 9⟩,
  ⟨false, none, .mov (.t 2), some 10⟩,
  ⟨false, none, .bin .add (.c (.int .i64 65)) (.t 10), some 11⟩,
  ⟨false, none, .toInt .u8 (.t 11), some 12⟩,
  ⟨false, none, .idxA 256 1 (.t 1) (.t 9), some 13⟩,
  ⟨false, none, .st 1 (.t 13) (.t 12), none⟩] (.nop)) (.reg [⟨false, none, .mov (.t 2), some 6⟩,
  ⟨false, none, .bin .add (.t 6) (.c (.int .i64 1)), some 7⟩,
  ⟨false, none, .mov (.t 7), some 2⟩] (.nop)))))) (.reg [⟨false, none, .loadN 256 (.t 1), some 14⟩,
  ⟨false, none, .st 256 (.t 0) (.t 14), none⟩] (.ret)))))
def hn_19 : Hn := { M := { own := fun _ => false, rb := fun _ => none, ord := fun _ => [] }, live := fun r => if r = 3 then [0, 1, 2] else [], ms := [] }
theorem kr_19 : rdy Try.prog hn_19 Try.f19 = some (rc_19, [.cellN 0 256], 15) := by kernel_rfl
theorem enA_19 : enterA Try.prog 19 = true := by kernel_rfl
theorem en_19 {args : List AV} {K : AV → ASt → Prop} {S : ASt} (hl : args.length ≤ 15) (h : wpR Try.prog rc_19 (bodyQ [.cellN 0 256] K) (argF 0 args) S) : ACalls Try.prog 19 args S K := ACalls.of Try.func19 enA_19 kr_19 hl h

/-- salvor/salvorref1.Ebcdic -/
def rc_20 : RC :=
  .reg [⟨false, none, .alloc (List.replicate 256 (.int .u8 0)), some 0⟩] (.reg [⟨false, none, .call 30 [], some 1⟩,
  ⟨false, none, .call 29 [.t 1], some 2⟩,
  ⟨false, none, .call 28 [.t 2], some 3⟩,
  ⟨false, none, .st 256 (.t 0) (.t 3), none⟩] (.ret))
def hn_20 : Hn := { M := { own := fun _ => false, rb := fun _ => none, ord := fun _ => [] }, live := fun _ => [], ms := [] }
theorem kr_20 : rdy Try.prog hn_20 Try.f20 = some (rc_20, [.cellN 0 256], 4) := by kernel_rfl
theorem enA_20 : enterA Try.prog 20 = true := by kernel_rfl
theorem en_20 {args : List AV} {K : AV → ASt → Prop} {S : ASt} (hl : args.length ≤ 4) (h : wpR Try.prog rc_20 (bodyQ [.cellN 0 256] K) (argF 0 args) S) : ACalls Try.prog 20 args S K := ACalls.of Try.func20 enA_20 kr_20 hl h

/-- salvor/salvorref1.Ibm -/
def rc_21 : RC :=
  .reg [⟨false, none, .alloc (List.replicate 256 (.int .u8 0)), some 0⟩] (.reg [⟨false, none, .call 30 [], some 3⟩,
  ⟨false, none, .mov (.t 3), some 1⟩] (.reg [⟨false, none, .mov (.c (.int .i64 0)), some 2⟩] (.block 0 (.loop [0, 1, 2] (.reg [⟨false, none, .mov (.t 2), some 4⟩,
  ⟨false, none, .bin .add (.t 4) (.c (.int .i64 1)), some 5⟩,
  ⟨false, none, .mov (.t 1), some 6⟩,
  ⟨false, none, .len (.t 6), some 7⟩,
  ⟨false, none, .bin .lss (.t 5) (.t 7), some 8⟩] (.cond (.t 8) (.nop) (.exit 0) (.block 1 (.reg [⟨false, none, .mov (.t 1), some 11⟩,
  ⟨false, none, .mov (.t 2), some 12⟩,
  ⟨false, none, .idx 1 (.t 11) (.t 12), some 13⟩,
  ⟨false, none, .load (.t 13), some 14⟩] (.block 2 (.reg [⟨false, none, .bin .eql (.t 14) (.c (.int .u8 94)), some 16⟩,
  ⟨false, none, .mov (.t 16), some 15⟩] (.cond (.t 15) (.reg [⟨false, none, .mov (.t 1), some 17⟩,
  ⟨false, none, .mov (.t 2), some 18⟩,
  ⟨false, none, .bin .add (.t 18) (.c (.int .i64 1)), some 19⟩,
  ⟨false, none, .idx 1 (.t 17) (.t 19), some 20⟩,
  ⟨false, none, .stE 1 (.t 20) (.c (.int .u8 95)), none⟩] (.nop)) (.reg [⟨false, none, .bin .eql (.t 14) (.c (.int .u8 126)), some 22⟩,
  ⟨false, none, .mov (.t 22), some 21⟩] (.cond (.t 21) (.reg [⟨false, none, .mov (.t 1), some 23⟩,
  ⟨false, none, .mov (.t 2), some 24⟩,
  ⟨false, none, .bin .add (.t 24) (.c (.int .i64 1)), some 25⟩,
  ⟨false, none, .idx 1 (.t 23) (.t 25), some 26⟩,
  ⟨false, none, .stE 1 (.t 26) (.c (.int .u8 161)), none⟩] (.nop)) (.nop) (.nop))) (.nop))) (.nop))) (.reg [⟨false, none, .mov (.t 2), some 9⟩,
  ⟨false, none, .bin .add (.t 9) (.c (.int .i64 2)), some 10⟩,
  ⟨false, none, .mov (.t 10), some 2⟩] (.nop)))))) (.reg [⟨false, none, .mov (.t 1), some 27⟩,
  ⟨false, none, .call 29 [.t 27], some 28⟩,
  ⟨false, none, .call 28 [.t 28], some 29⟩,
  ⟨false, none, .st 256 (.t 0) (.t 29), none⟩] (.ret)))))
def hn_21 : Hn := { M := { own := fun _ => false, rb := fun r => if r = 20 then some 1 else if r = 26 then some 1 else none, ord := fun _ => [] }, live := fun r => if r = 3 then [0, 1, 2] else [], ms := [] }
theorem kr_21 : rdy Try.prog hn_21 Try.f21 = some (rc_21, [.cellN 0 256], 30) := by kernel_rfl
theorem enA_21 : enterA Try.prog 21 = true := by kernel_rfl
theorem en_21 {args : List AV} {K : AV → ASt → Prop} {S : ASt} (hl : args.length ≤ 30) (h : wpR Try.prog rc_21 (bodyQ [.cellN 0 256] K) (argF 0 args) S) : ACalls Try.prog 21 args S K := ACalls.of Try.func21 enA_21 kr_21 hl h

/-- salvor/salvorref1.Ascii -/
def rc_22 : RC :=
  .reg [⟨false, none, .alloc (List.replicate 256 (.int .u8 0)), some 0⟩] (.reg [⟨false, none, .call 20 [], some 4⟩,
  ⟨false, none, .alloc (List.replicate 256 (.int .u8 0)), some 1⟩,
  ⟨false, none, .st 256 (.t 1) (.t 4), none⟩] (.reg [⟨false, none, .alloc (List.replicate 256 (.int .u8 0)), some 2⟩] (.reg [⟨false, none, .mov (.c (.int .i64 0)), some 3⟩] (.block 0 (.loop [0, 1, 2, 3] (.reg [⟨false, none, .mov (.t 3), some 5⟩,
  ⟨false, none, .bin .lss (.t 5) (.c (.int .i64 256)), some 6⟩] (.cond (.t 6) (.nop) (.exit 0) (.block 1 (.reg [⟨false, none, .mov (.t 3), some 9⟩,
  ⟨false, none, .idxA 256 1 (.t 1) (.t 9), some 10⟩,
  ⟨false, none, .load (.t 10), some 11⟩,
  ⟨false, none, .mov (.t 3), some 12⟩,
  ⟨false, none, .toInt .u8 (.t 12), some 13⟩,
  ⟨false, none, .idxA 256 1 (.t 2) (.t 11), some 14⟩,
  ⟨false, none, .st 1 (.t 14) (.t 13), none⟩] (.nop)) (.reg [⟨false, none, .mov (.t 3), some 7⟩,
  ⟨false, none, .bin .add (.t 7) (.c (.int .i64 1)), some 8⟩,
  ⟨false, none, .mov (.t 8), some 3⟩] (.nop)))))) (.reg [⟨false, none, .loadN 256 (.t 2), some 15⟩,
  ⟨false, none, .st 256 (.t 0) (.t 15), none⟩] (.ret))))))
def hn_22 : Hn := { M := { own := fun _ => false, rb := fun _ => none, ord := fun _ => [] }, live := fun r => if r = 4 then [0, 1, 2, 3] else [], ms := [] }
theorem kr_22 : rdy Try.prog hn_22 Try.f22 = some (rc_22, [.cellN 0 256], 16) := by kernel_rfl
theorem enA_22 : enterA Try.prog 22 = true := by kernel_rfl
theorem en_22 {args : List AV} {K : AV → ASt → Prop} {S : ASt} (hl : args.length ≤ 16) (h : wpR Try.prog rc_22 (bodyQ [.cellN 0 256] K) (argF 0 args) S) : ACalls Try.prog 22 args S K := ACalls.of Try.func22 enA_22 kr_22 hl h

/-- salvor/tab.table -/
def rc_23 : RC :=
  .reg [⟨false, none, .alloc (List.replicate 256 (.int .u8 0)), some 2⟩] (.reg [⟨false, none, .alloc (List.replicate 256 (.int .u8 0)), some 3⟩] (.reg [⟨false, none, .alloc (List.replicate 256 (.bool false)), some 4⟩,
  ⟨false, none, .alloc (List.replicate 256 (.bool false)), some 5⟩] (.reg [⟨false, none, .mov (.t 0), some 11⟩,
  ⟨false, none, .len (.t 11), some 12⟩,
  ⟨false, none, .mov (.c (.int .i64 0)), some 13⟩] (.block 0 (.loop [2, 3, 4, 5, 11, 12, 13] (.reg [⟨false, none, .bin .lss (.t 13) (.t 12), some 14⟩] (.cond (.t 14) (.nop) (.exit 0) (.block 1 (.reg [⟨false, none, .idx 3 (.t 11) (.t 13), some 15⟩,
  ⟨false, none, .loadN 3 (.t 15), some 16⟩,
  ⟨false, none, .alloc ([.int .i64 0, .int .i64 0, .int .i64 0]), some 7⟩,
  ⟨false, none, .st 3 (.t 7) (.t 16), none⟩] (.reg [⟨false, none, .fld 2 (.t 7), some 17⟩,
  ⟨false, none, .load (.t 17), some 18⟩,
  ⟨false, none, .mov (.c (.int .i64 0)), some 19⟩] (.block 2 (.loop [2, 3, 4, 5, 7, 11, 12, 13, 18, 19] (.reg [⟨false, none, .bin .lss (.t 19) (.t 18), some 20⟩] (.cond (.t 20) (.nop) (.exit 2) (.block 3 (.reg [⟨false, none, .mov (.t 19), some 21⟩,
  ⟨false, none, .mov (.t 21), some 8⟩] (.reg [⟨false, none, .fld 0 (.t 7), some 22⟩,
  ⟨false, none, .load (.t 22), some 23⟩,
  ⟨false, none, .mov (.t 8), some 24⟩,
  ⟨false, none, .bin .add (.t 23) (.t 24), some 25⟩,
  ⟨false, none, .fld 1 (.t 7), some 26⟩,
  ⟨false, none, .load (.t 26), some 27⟩,
  ⟨false, none, .mov (.t 8), some 28⟩,
  ⟨false, none, .bin .add (.t 27) (.t 28), some 29⟩,
  ⟨false, none, .toInt .u8 (.t 29), some 30⟩,
  ⟨false, none, .idxA 256 1 (.t 3) (.t 25), some 31⟩,
  ⟨false, none, .st 1 (.t 31) (.t 30), none⟩] (.reg [⟨false, none, .fld 0 (.t 7), some 32⟩,
  ⟨false, none, .load (.t 32), some 33⟩,
  ⟨false, none, .mov (.t 8), some 34⟩,
  ⟨false, none, .bin .add (.t 33) (.t 34), some 35⟩,
  ⟨false, none, .fld 1 (.t 7), some 36⟩,
  ⟨false, none, .load (.t 36), some 37⟩,
  ⟨false, none, .mov (.t 8), some 38⟩,
  ⟨false, none, .bin .add (.t 37) (.t 38), some 39⟩,
  ⟨false, none, .idxA 256 1 (.t 4) (.t 35), some 40⟩,
  ⟨false, none, .st 1 (.t 40) (.c (.bool true)), none⟩,
  ⟨true, none, .load (.t 36), some 37⟩,
  ⟨true, none, .fld 1 (.t 7), some 36⟩,
  ⟨false, none, .idxA 256 1 (.t 5) (.t 39), some 41⟩,
  ⟨false, none, .st 1 (.t 41) (.c (.bool true)), none⟩] (.nop)))) (.reg [⟨false, none, .bin .add (.t 19) (.c (.int .i64 1)), some 42⟩,
  ⟨false, none, .mov (.t 42), some 19⟩] (.nop)))))) (.nop)))) (.reg [⟨false, none, .bin .add (.t 13) (.c (.int .i64 1)), some 43⟩,
  ⟨false, none, .mov (.t 43), some 13⟩] (.nop)))))) (.reg [⟨false, none, .mov (.c (.int .i64 0)), some 9⟩] (.reg [⟨false, none, .mov (.c (.int .i64 0)), some 44⟩] (.block 4 (.loop [2, 3, 4, 5, 9, 44] (.reg [⟨false, none, .bin .lss (.t 44) (.c (.int .i64 256)), some 45⟩] (.cond (.t 45) (.nop) (.exit 4) (.block 5 (.reg [⟨false, none, .mov (.t 44), some 46⟩,
  ⟨false, none, .mov (.t 46), some 10⟩] (.reg [⟨false, none, .mov (.t 10), some 47⟩,
  ⟨false, none, .idxA 256 1 (.t 4) (.t 47), some 48⟩,
  ⟨false, none, .load (.t 48), some 49⟩] (.cond (.t 49) (.exit 5) (.nop) (.block 6 (.loop [2, 3, 4, 5, 9, 10, 44] (.reg [⟨false, none, .mov (.t 9), some 50⟩,
  ⟨false, none, .idxA 256 1 (.t 5) (.t 50), some 51⟩,
  ⟨false, none, .load (.t 51), some 52⟩] (.cond (.t 52) (.nop) (.exit 6) (.block 7 (.reg [⟨false, none, .mov (.t 9), some 53⟩,
  ⟨false, none, .bin .add (.t 53) (.c (.int .i64 1)), some 54⟩,
  ⟨false, none, .mov (.t 54), some 9⟩] (.nop)) (.nop))))) (.reg [⟨false, none, .mov (.t 10), some 55⟩,
  ⟨false, none, .mov (.t 9), some 56⟩,
  ⟨false, none, .toInt .u8 (.t 56), some 57⟩,
  ⟨false, none, .idxA 256 1 (.t 3) (.t 55), some 58⟩,
  ⟨false, none, .st 1 (.t 58) (.t 57), none⟩] (.reg [⟨false, none, .mov (.t 9), some 59⟩,
  ⟨false, none, .bin .add (.t 59) (.c (.int .i64 1)), some 60⟩,
  ⟨false, none, .mov (.t 60), some 9⟩] (.nop))))))) (.reg [⟨false, none, .bin .add (.t 44) (.c (.int .i64 1)), some 61⟩,
  ⟨false, none, .mov (.t 61), some 44⟩] (.nop)))))) (.reg [⟨false, none, .loadN 256 (.t 3), some 62⟩,
  ⟨false, none, .st 256 (.t 2) (.t 62), none⟩] (.ret)))))))))
def hn_23 : Hn := { M := { own := fun _ => false, rb := fun _ => none, ord := fun r => if r = 10 then [0, 1, 2, 3, 4, 5, 6, 7, 8, 9, 10, 11] else [] }, live := fun r => if r = 4 then [2, 3, 4, 5, 11, 12, 13] else if r = 7 then [2, 3, 4, 5, 7, 11, 12, 13, 18, 19] else if r = 15 then [2, 3, 4, 5, 9, 44] else if r = 18 then [2, 3, 4, 5, 9, 10, 44] else [], ms := [] }
theorem kr_23 : rdy Try.prog hn_23 Try.f23 = some (rc_23, [.cellN 2 256], 63) := by kernel_rfl
theorem enA_23 : enterA Try.prog 23 = true := by kernel_rfl
theorem en_23 {args : List AV} {K : AV → ASt → Prop} {S : ASt} (hl : args.length ≤ 63) (h : wpR Try.prog rc_23 (bodyQ [.cellN 2 256] K) (argF 0 args) S) : ACalls Try.prog 23 args S K := ACalls.of Try.func23 enA_23 kr_23 hl h

/-- salvor/tab.named -/
def rc_24 : RC :=
  .reg [⟨false, none, .mov (.c (.sl .nil 0 [])), some 0⟩] (.reg [⟨false, none, .build ([.int .i64 0, .int .i64 0, .int .i64 0]) [(0, 1), (1, 1), (2, 1)] [(0, .c (.int .i64 0)), (1, .c (.int .i64 0)), (2, .c (.int .i64 1))], some 1⟩,
  ⟨false, none, .build ([.int .i64 0, .int .i64 0, .int .i64 0]) [(0, 1), (1, 1), (2, 1)] [(0, .c (.int .i64 9)), (1, .c (.int .i64 5)), (2, .c (.int .i64 1))], some 2⟩,
  ⟨false, none, .build ([.int .i64 0, .int .i64 0, .int .i64 0]) [(0, 1), (1, 1), (2, 1)] [(0, .c (.int .i64 10)), (1, .c (.int .i64 37)), (2, .c (.int .i64 1))], some 3⟩,
  ⟨false, none, .build ([.int .i64 0, .int .i64 0, .int .i64 0]) [(0, 1), (1, 1), (2, 1)] [(0, .c (.int .i64 13)), (1, .c (.int .i64 13)), (2, .c (.int .i64 1))], some 4⟩,
  ⟨false, none, .build ([.int .i64 0, .int .i64 0, .int .i64 0]) [(0, 1), (1, 1), (2, 1)] [(0, .c (.int .i64 32)), (1, .c (.int .i64 64)), (2, .c (.int .i64 1))], some 5⟩,
  ⟨false, none, .build ([.int .i64 0, .int .i64 0, .int .i64 0]) [(0, 1), (1, 1), (2, 1)] [(0, .c (.int .i64 33)), (1, .c (.int .i64 90)), (2, .c (.int .i64 1))], some 6⟩,
  ⟨false, none, .build ([.int .i64 0, .int .i64 0, .int .i64 0]) [(0, 1), (1, 1), (2, 1)] [(0, .c (.int .i64 34)), (1, .c (.int .i64 127)), (2, .c (.int .i64 1))], some 7⟩,
  ⟨false, none, .build ([.int .i64 0, .int .i64 0, .int .i64 0]) [(0, 1), (1, 1), (2, 1)] [(0, .c (.int .i64 35)), (1, .c (.int .i64 123)), (2, .c (.int .i64 1))], some 8⟩,
  ⟨false, none, .build ([.int .i64 0, .int .i64 0, .int .i64 0]) [(0, 1), (1, 1), (2, 1)] [(0, .c (.int .i64 36)), (1, .c (.int .i64 91)), (2, .c (.int .i64 1))], some 9⟩,
  ⟨false, none, .build ([.int .i64 0, .int .i64 0, .int .i64 0]) [(0, 1), (1, 1), (2, 1)] [(0, .c (.int .i64 37)), (1, .c (.int .i64 108)), (2, .c (.int .i64 1))], some 10⟩,
  ⟨false, none, .build ([.int .i64 0, .int .i64 0, .int .i64 0]) [(0, 1), (1, 1), (2, 1)] [(0, .c (.int .i64 38)), (1, .c (.int .i64 80)), (2, .c (.int .i64 1))], some 11⟩,
  ⟨false, none, .build ([.int .i64 0, .int .i64 0, .int .i64 0]) [(0, 1), (1, 1), (2, 1)] [(0, .c (.int .i64 39)), (1, .c (.int .i64 125)), (2, .c (.int .i64 1))], some 12⟩,
  ⟨false, none, .build ([.int .i64 0, .int .i64 0, .int .i64 0]) [(0, 1), (1, 1), (2, 1)] [(0, .c (.int .i64 40)), (1, .c (.int .i64 77)), (2, .c (.int .i64 1))], some 13⟩,
  ⟨false, none, .build ([.int .i64 0, .int .i64 0, .int .i64 0]) [(0, 1), (1, 1), (2, 1)] [(0, .c (.int .i64 41)), (1, .c (.int .i64 93)), (2, .c (.int .i64 1))], some 14⟩,
  ⟨false, none, .build ([.int .i64 0, .int .i64 0, .int .i64 0]) [(0, 1), (1, 1), (2, 1)] [(0, .c (.int .i64 42)), (1, .c (.int .i64 92)), (2, .c (.int .i64 1))], some 15⟩,
  ⟨false, none, .build ([.int .i64 0, .int .i64 0, .int .i64 0]) [(0, 1), (1, 1), (2, 1)] [(0, .c (.int .i64 43)), (1, .c (.int .i64 78)), (2, .c (.int .i64 1))], some 16⟩,
  ⟨false, none, .build ([.int .i64 0, .int .i64 0, .int .i64 0]) [(0, 1), (1, 1), (2, 1)] [(0, .c (.int .i64 44)), (1, .c (.int .i64 107)), (2, .c (.int .i64 1))], some 17⟩,
  ⟨false, none, .build ([.int .i64 0, .int .i64 0, .int .i64 0]) [(0, 1), (1, 1), (2, 1)] [(0, .c (.int .i64 45)), (1, .c (.int .i64 96)), (2, .c (.int .i64 1))], some 18⟩,
  ⟨false, none, .build ([.int .i64 0, .int .i64 0, .int .i64 0]) [(0, 1), (1, 1), (2, 1)] [(0, .c (.int .i64 46)), (1, .c (.int .i64 75)), (2, .c (.int .i64 1))], some 19⟩,
  ⟨false, none, .build ([.int .i64 0, .int .i64 0, .int .i64 0]) [(0, 1), (1, 1), (2, 1)] [(0, .c (.int .i64 47)), (1, .c (.int .i64 97)), (2, .c (.int .i64 1))], some 20⟩,
  ⟨false, none, .build ([.int .i64 0, .int .i64 0, .int .i64 0]) [(0, 1), (1, 1), (2, 1)] [(0, .c (.int .i64 58)), (1, .c (.int .i64 122)), (2, .c (.int .i64 1))], some 21⟩,
  ⟨false, none, .build ([.int .i64 0, .int .i64 0, .int .i64 0]) [(0, 1), (1, 1), (2, 1)] [(0, .c (.int .i64 59)), (1, .c (.int .i64 94)), (2, .c (.int .i64 1))], some 22⟩,
  ⟨false, none, .build ([.int .i64 0, .int .i64 0, .int .i64 0]) [(0, 1), (1, 1), (2, 1)] [(0, .c (.int .i64 60)), (1, .c (.int .i64 76)), (2, .c (.int .i64 1))], some 23⟩,
  ⟨false, none, .build ([.int .i64 0, .int .i64 0, .int .i64 0]) [(0, 1), (1, 1), (2, 1)] [(0, .c (.int .i64 61)), (1, .c (.int .i64 126)), (2, .c (.int .i64 1))], some 24⟩,
  ⟨false, none, .build ([.int .i64 0, .int .i64 0, .int .i64 0]) [(0, 1), (1, 1), (2, 1)] [(0, .c (.int .i64 62)), (1, .c (.int .i64 110)), (2, .c (.int .i64 1))], some 25⟩,
  ⟨false, none, .build ([.int .i64 0, .int .i64 0, .int .i64 0]) [(0, 1), (1, 1), (2, 1)] [(0, .c (.int .i64 63)), (1, .c (.int .i64 111)), (2, .c (.int .i64 1))], some 26⟩,
  ⟨false, none, .build ([.int .i64 0, .int .i64 0, .int .i64 0]) [(0, 1), (1, 1), (2, 1)] [(0, .c (.int .i64 64)), (1, .c (.int .i64 124)), (2, .c (.int .i64 1))], some 27⟩,
  ⟨false, none, .build ([.int .i64 0, .int .i64 0, .int .i64 0]) [(0, 1), (1, 1), (2, 1)] [(0, .c (.int .i64 91)), (1, .c (.int .i64 173)), (2, .c (.int .i64 1))], some 28⟩,
  ⟨false, none, .build ([.int .i64 0, .int .i64 0, .int .i64 0]) [(0, 1), (1, 1), (2, 1)] [(0, .c (.int .i64 92)), (1, .c (.int .i64 224)), (2, .c (.int .i64 1))], some 29⟩,
  ⟨false, none, .build ([.int .i64 0, .int .i64 0, .int .i64 0]) [(0, 1), (1, 1), (2, 1)] [(0, .c (.int .i64 93)), (1, .c (.int .i64 189)), (2, .c (.int .i64 1))], some 30⟩,
  ⟨false, none, .build ([.int .i64 0, .int .i64 0, .int .i64 0]) [(0, 1), (1, 1), (2, 1)] [(0, .c (.int .i64 95)), (1, .c (.int .i64 109)), (2, .c (.int .i64 1))], some 31⟩,
  ⟨false, none, .build ([.int .i64 0, .int .i64 0, .int .i64 0]) [(0, 1), (1, 1), (2, 1)] [(0, .c (.int .i64 96)), (1, .c (.int .i64 121)), (2, .c (.int .i64 1))], some 32⟩,
  ⟨false, none, .build ([.int .i64 0, .int .i64 0, .int .i64 0]) [(0, 1), (1, 1), (2, 1)] [(0, .c (.int .i64 123)), (1, .c (.int .i64 192)), (2, .c (.int .i64 1))], some 33⟩,
  ⟨false, none, .build ([.int .i64 0, .int .i64 0, .int .i64 0]) [(0, 1), (1, 1), (2, 1)] [(0, .c (.int .i64 124)), (1, .c (.int .i64 79)), (2, .c (.int .i64 1))], some 34⟩,
  ⟨false, none, .build ([.int .i64 0, .int .i64 0, .int .i64 0]) [(0, 1), (1, 1), (2, 1)] [(0, .c (.int .i64 125)), (1, .c (.int .i64 208)), (2, .c (.int .i64 1))], some 35⟩,
  ⟨false, none, .build ([.int .i64 0, .int .i64 0, .int .i64 0]) [(0, 1), (1, 1), (2, 1)] [(0, .c (.int .i64 48)), (1, .c (.int .i64 240)), (2, .c (.int .i64 10))], some 36⟩,
  ⟨false, none, .build ([.int .i64 0, .int .i64 0, .int .i64 0]) [(0, 1), (1, 1), (2, 1)] [(0, .c (.int .i64 65)), (1, .c (.int .i64 193)), (2, .c (.int .i64 9))], some 37⟩,
  ⟨false, none, .build ([.int .i64 0, .int .i64 0, .int .i64 0]) [(0, 1), (1, 1), (2, 1)] [(0, .c (.int .i64 74)), (1, .c (.int .i64 209)), (2, .c (.int .i64 9))], some 38⟩,
  ⟨false, none, .build ([.int .i64 0, .int .i64 0, .int .i64 0]) [(0, 1), (1, 1), (2, 1)] [(0, .c (.int .i64 83)), (1, .c (.int .i64 226)), (2, .c (.int .i64 8))], some 39⟩,
  ⟨false, none, .build ([.int .i64 0, .int .i64 0, .int .i64 0]) [(0, 1), (1, 1), (2, 1)] [(0, .c (.int .i64 97)), (1, .c (.int .i64 129)), (2, .c (.int .i64 9))], some 40⟩,
  ⟨false, none, .build ([.int .i64 0, .int .i64 0, .int .i64 0]) [(0, 1), (1, 1), (2, 1)] [(0, .c (.int .i64 106)), (1, .c (.int .i64 145)), (2, .c (.int .i64 9))], some 41⟩,
  ⟨false, none, .build ([.int .i64 0, .int .i64 0, .int .i64 0]) [(0, 1), (1, 1), (2, 1)] [(0, .c (.int .i64 115)), (1, .c (.int .i64 162)), (2, .c (.int .i64 8))], some 42⟩,
  ⟨false, none, .mkSl true 3 42 (.agg ([.int .i64 0, .int .i64 0, .int .i64 0])) [(0, .t 1), (1, .t 2), (2, .t 3), (3, .t 4), (4, .t 5), (5, .t 6), (6, .t 7), (7, .t 8), (8, .t 9), (9, .t 10), (10, .t 11), (11, .t 12), (12, .t 13), (13, .t 14), (14, .t 15), (15, .t 16), (16, .t 17), (17, .t 18), (18, .t 19), (19, .t 20), (20, .t 21), (21, .t 22), (22, .t 23), (23, .t 24), (24, .t 25), (25, .t 26), (26, .t 27), (27, .t 28), (28, .t 29), (29, .t 30), (30, .t 31), (31, .t 32), (32, .t 33), (33, .t 34), (34, .t 35), (35, .t 36), (36, .t 37), (37, .t 38), (38, .t 39), (39, .t 40), (40, .t 41), (41, .t 42)], some 43⟩,
  ⟨false, none, .mov (.t 43), some 0⟩] (.ret))
def hn_24 : Hn := { M := { own := fun d => d == 43, rb := fun _ => none, ord := fun _ => [] }, live := fun _ => [], ms := [] }
theorem kr_24 : rdy Try.prog hn_24 Try.f24 = some (rc_24, [.t 0], 44) := by kernel_rfl
theorem enA_24 : enterA Try.prog 24 = true := by kernel_rfl
theorem en_24 {args : List AV} {K : AV → ASt → Prop} {S : ASt} (hl : args.length ≤ 44) (h : wpR Try.prog rc_24 (bodyQ [.t 0] K) (argF 0 args) S) : ACalls Try.prog 24 args S K := ACalls.of Try.func24 enA_24 kr_24 hl h

/-- salvor/tab.moved -/
def rc_25 : RC :=
  .reg [⟨false, none, .alloc (List.replicate 256 (.int .u8 0)), some 4⟩] (.reg [⟨false, none, .call 26 [], some 7⟩,
  ⟨false, none, .alloc (List.replicate 256 (.int .u8 0)), some 5⟩,
  ⟨false, none, .st 256 (.t 5) (.t 7), none⟩] (.reg [⟨false, none, .mov (.c (.int .u8 0)), some 8⟩] (.block 0 (.loop [0, 1, 4, 5, 8] (.reg [⟨false, none, .bin .lss (.t 8) (.c (.int .u8 26)), some 9⟩] (.cond (.t 9) (.nop) (.exit 0) (.block 1 (.reg [⟨false, none, .mov (.t 8), some 10⟩,
  ⟨false, none, .mov (.t 10), some 6⟩] (.reg [⟨false, none, .mov (.t 0), some 11⟩,
  ⟨false, none, .mov (.t 6), some 12⟩,
  ⟨false, none, .bin .add (.t 11) (.t 12), some 13⟩,
  ⟨false, none, .mov (.t 1), some 14⟩,
  ⟨false, none, .mov (.t 6), some 15⟩,
  ⟨false, none, .bin .add (.t 14) (.t 15), some 16⟩,
  ⟨false, none, .idxA 256 1 (.t 5) (.t 13), some 17⟩,
  ⟨false, none, .st 1 (.t 17) (.t 16), none⟩] (.nop))) (.reg [⟨false, none, .bin .add (.t 8) (.c (.int .u8 1)), some 18⟩,
  ⟨false, none, .mov (.t 18), some 8⟩] (.nop)))))) (.reg [⟨false, none, .loadN 256 (.t 5), some 19⟩,
  ⟨false, none, .st 256 (.t 4) (.t 19), none⟩] (.ret)))))
def hn_25 : Hn := { M := { own := fun _ => false, rb := fun _ => none, ord := fun _ => [] }, live := fun r => if r = 3 then [0, 1, 4, 5, 8] else [], ms := [] }
theorem kr_25 : rdy Try.prog hn_25 Try.f25 = some (rc_25, [.cellN 4 256], 20) := by kernel_rfl
theorem enA_25 : enterA Try.prog 25 = true := by kernel_rfl
theorem en_25 {args : List AV} {K : AV → ASt → Prop} {S : ASt} (hl : args.length ≤ 20) (h : wpR Try.prog rc_25 (bodyQ [.cellN 4 256] K) (argF 0 args) S) : ACalls Try.prog 25 args S K := ACalls.of Try.func25 enA_25 kr_25 hl h

/-- salvor/tab.same -/
def rc_26 : RC :=
  .reg [⟨false, none, .alloc (List.replicate 256 (.int .u8 0)), some 0⟩] (.reg [⟨false, none, .alloc (List.replicate 256 (.int .u8 0)), some 1⟩] (.reg [⟨false, none, .mov (.c (.int .i64 0)), some 3⟩] (.block 0 (.loop [0, 1, 3] (.reg [⟨false, none, .bin .lss (.t 3) (.c (.int .i64 256)), some 4⟩] (.cond (.t 4) (.nop) (.exit 0) (.block 1 (.reg [⟨false, none, .mov (.t 3), some 5⟩,
  ⟨false, none, .mov (.t 5), some 2⟩] (.reg [⟨false, none, .mov (.t 2), some 6⟩,
  ⟨false, none, .mov (.t 2), some 7⟩,
  ⟨false, none, .toInt .u8 (.t 7), some 8⟩,
  ⟨false, none, .idxA 256 1 (.t 1) (.t 6), some 9⟩,
  ⟨false, none, .st 1 (.t 9) (.t 8), none⟩] (.nop))) (.reg [⟨false, none, .bin .add (.t 3) (.c (.int .i64 1)), some 10⟩,
  ⟨false, none, .mov (.t 10), some 3⟩] (.nop)))))) (.reg [⟨false, none, .loadN 256 (.t 1), some 11⟩,
  ⟨false, none, .st 256 (.t 0) (.t 11), none⟩] (.ret)))))
def hn_26 : Hn := { M := { own := fun _ => false, rb := fun _ => none, ord := fun _ => [] }, live := fun r => if r = 3 then [0, 1, 3] else [], ms := [] }
theorem kr_26 : rdy Try.prog hn_26 Try.f26 = some (rc_26, [.cellN 0 256], 12) := by kernel_rfl
theorem enA_26 : enterA Try.prog 26 = true := by kernel_rfl
theorem en_26 {args : List AV} {K : AV → ASt → Prop} {S : ASt} (hl : args.length ≤ 12) (h : wpR Try.prog rc_26 (bodyQ [.cellN 0 256] K) (argF 0 args) S) : ACalls Try.prog 26 args S K := ACalls.of Try.func26 enA_26 kr_26 hl h

/-- salvor/salvorref1.Id -/
def rc_27 : RC :=
  .reg [⟨false, none, .alloc (List.replicate 256 (.int .u8 0)), some 0⟩] (.reg [⟨false, none, .alloc (List.replicate 256 (.int .u8 0)), some 1⟩] (.reg [⟨false, none, .mov (.c (.int .i64 0)), some 2⟩] (.block 0 (.loop [0, 1, 2] (.reg [⟨false, none, .mov (.t 2), some 3⟩,
  ⟨false, none, .bin .lss (.t 3) (.c (.int .i64 256)), some 4⟩] (.cond (.t 4) (.nop) (.exit 0) (.block 1 (.reg [⟨false, none, .mov (.t 2), some 7⟩,
  ⟨false, none, .mov (.t 2), some 8⟩,
  ⟨false, none, .toInt .u8 (.t 8), some 9⟩,
  ⟨false, none, .idxA 256 1 (.t 1) (.t 7), some 10⟩,
  ⟨false, none, .st 1 (.t 10) (.t 9), none⟩] (.nop)) (.reg [⟨false, none, .mov (.t 2), some 5⟩,
  ⟨false, none, .bin .add (.t 5) (.c (.int .i64 1)), some 6⟩,
  ⟨false, none, .mov (.t 6), some 2⟩] (.nop)))))) (.reg [⟨false, none, .loadN 256 (.t 1), some 11⟩,
  ⟨false, none, .st 256 (.t 0) (.t 11), none⟩] (.ret)))))
def hn_27 : Hn := { M := { own := fun _ => false, rb := fun _ => none, ord := fun _ => [] }, live := fun r => if r = 3 then [0, 1, 2] else [], ms := [] }
theorem kr_27 : rdy Try.prog hn_27 Try.f27 = some (rc_27, [.cellN 0 256], 12) := by kernel_rfl
theorem enA_27 : enterA Try.prog 27 = true := by kernel_rfl
theorem en_27 {args : List AV} {K : AV → ASt → Prop} {S : ASt} (hl : args.length ≤ 12) (h : wpR Try.prog rc_27 (bodyQ [.cellN 0 256] K) (argF 0 args) S) : ACalls Try.prog 27 args S K := ACalls.of Try.func27 enA_27 kr_27 hl h

/-- salvor/salvorref1.fill -/
def rc_28 : RC :=
  .reg [⟨false, none, .alloc (List.replicate 256 (.int .u8 0)), some 2⟩] (.reg [⟨false, none, .alloc (List.replicate 256 (.int .u8 0)), some 3⟩] (.reg [⟨false, none, .alloc (List.replicate 256 (.bool false)), some 4⟩,
  ⟨false, none, .alloc (List.replicate 256 (.bool false)), some 5⟩] (.reg [⟨false, none, .mov (.c (.int .i64 0)), some 6⟩] (.block 0 (.loop [0, 2, 3, 4, 5, 6] (.reg [⟨false, none, .mov (.t 6), some 9⟩,
  ⟨false, none, .bin .add (.t 9) (.c (.int .i64 1)), some 10⟩,
  ⟨false, none, .mov (.t 0), some 11⟩,
  ⟨false, none, .len (.t 11), some 12⟩,
  ⟨false, none, .bin .lss (.t 10) (.t 12), some 13⟩] (.cond (.t 13) (.nop) (.exit 0) (.block 1 (.reg [⟨false, none, .mov (.t 0), some 16⟩,
  ⟨false, none, .mov (.t 6), some 17⟩,
  ⟨false, none, .idx 1 (.t 16) (.t 17), some 18⟩,
  ⟨false, none, .load (.t 18), some 19⟩,
  ⟨false, none, .mov (.t 0), some 20⟩,
  ⟨false, none, .mov (.t 6), some 21⟩,
  ⟨false, none, .bin .add (.t 21) (.c (.int .i64 1)), some 22⟩,
  ⟨false, none, .idx 1 (.t 20) (.t 22), some 23⟩,
  ⟨false, none, .load (.t 23), some 24⟩,
  ⟨false, none, .idxA 256 1 (.t 3) (.t 19), some 25⟩,
  ⟨false, none, .st 1 (.t 25) (.t 24), none⟩] (.reg [⟨false, none, .mov (.t 0), some 26⟩,
  ⟨false, none, .mov (.t 6), some 27⟩,
  ⟨false, none, .idx 1 (.t 26) (.t 27), some 28⟩,
  ⟨false, none, .load (.t 28), some 29⟩,
  ⟨false, none, .mov (.t 0), some 30⟩,
  ⟨false, none, .mov (.t 6), some 31⟩,
  ⟨false, none, .bin .add (.t 31) (.c (.int .i64 1)), some 32⟩,
  ⟨false, none, .idx 1 (.t 30) (.t 32), some 33⟩,
  ⟨false, none, .load (.t 33), some 34⟩,
  ⟨false, none, .idxA 256 1 (.t 4) (.t 29), some 35⟩,
  ⟨false, none, .st 1 (.t 35) (.c (.bool true)), none⟩,
  ⟨true, none, .load (.t 33), some 34⟩,
  ⟨true, none, .idx 1 (.t 30) (.t 32), some 33⟩,
  ⟨false, none, .idxA 256 1 (.t 5) (.t 34), some 36⟩,
  ⟨false, none, .st 1 (.t 36) (.c (.bool true)), none⟩] (.nop))) (.reg [⟨false, none, .mov (.t 6), some 14⟩,
  ⟨false, none, .bin .add (.t 14) (.c (.int .i64 2)), some 15⟩,
  ⟨false, none, .mov (.t 15), some 6⟩] (.nop)))))) (.reg [⟨false, none, .mov (.c (.int .i64 0)), some 7⟩] (.reg [⟨false, none, .mov (.c (.int .i64 0)), some 8⟩] (.block 2 (.loop [2, 3, 4, 5, 7, 8] (.reg [⟨false, none, .mov (.t 8), some 37⟩,
  ⟨false, none, .bin .lss (.t 37) (.c (.int .i64 256)), some 38⟩] (.cond (.t 38) (.nop) (.exit 2) (.block 3 (.reg [⟨false, none, .mov (.t 8), some 41⟩,
  ⟨false, none, .idxA 256 1 (.t 4) (.t 41), some 42⟩,
  ⟨false, none, .load (.t 42), some 43⟩] (.cond (.t 43) (.exit 3) (.nop) (.block 4 (.loop [2, 3, 4, 5, 7, 8] (.reg [⟨false, none, .mov (.t 7), some 44⟩,
  ⟨false, none, .idxA 256 1 (.t 5) (.t 44), some 45⟩,
  ⟨false, none, .load (.t 45), some 46⟩] (.cond (.t 46) (.nop) (.exit 4) (.block 5 (.reg [⟨false, none, .mov (.t 7), some 47⟩,
  ⟨false, none, .bin .add (.t 47) (.c (.int .i64 1)), some 48⟩,
  ⟨false, none, .mov (.t 48), some 7⟩] (.nop)) (.nop))))) (.reg [⟨false, none, .mov (.t 8), some 49⟩,
  ⟨false, none, .mov (.t 7), some 50⟩,
  ⟨false, none, .toInt .u8 (.t 50), some 51⟩,
  ⟨false, none, .idxA 256 1 (.t 3) (.t 49), some 52⟩,
  ⟨false, none, .st 1 (.t 52) (.t 51), none⟩] (.reg [⟨false, none, .mov (.t 7), some 53⟩,
  ⟨false, none, .idxA 256 1 (.t 5) (.t 53), some 54⟩,
  ⟨false, none, .st 1 (.t 54) (.c (.bool true)), none⟩] (.nop)))))) (.reg [⟨false, none, .mov (.t 8), some 39⟩,
  ⟨false, none, .bin .add (.t 39) (.c (.int .i64 1)), some 40⟩,
  ⟨false, none, .mov (.t 40), some 8⟩] (.nop)))))) (.reg [⟨false, none, .loadN 256 (.t 3), some 55⟩,
  ⟨false, none, .st 256 (.t 2) (.t 55), none⟩] (.ret)))))))))
def hn_28 : Hn := { M := { own := fun _ => false, rb := fun _ => none, ord := fun r => if r = 6 then [0, 1, 2, 3, 4, 5, 6, 7, 8, 9, 10] else if r = 7 then [0, 1, 2, 3, 4, 5, 6, 7, 8, 9, 10, 11, 12] else [] }, live := fun r => if r = 4 then [0, 2, 3, 4, 5, 6] else if r = 10 then [2, 3, 4, 5, 7, 8] else if r = 13 then [2, 3, 4, 5, 7, 8] else [], ms := [] }
theorem kr_28 : rdy Try.prog hn_28 Try.f28 = some (rc_28, [.cellN 2 256], 56) := by kernel_rfl
theorem enA_28 : enterA Try.prog 28 = true := by kernel_rfl
theorem en_28 {args : List AV} {K : AV → ASt → Prop} {S : ASt} (hl : args.length ≤ 56) (h : wpR Try.prog rc_28 (bodyQ [.cellN 2 256] K) (argF 0 args) S) : ACalls Try.prog 28 args S K := ACalls.of Try.func28 enA_28 kr_28 hl h

/-- salvor/salvorref1.rows -/
def rc_29 : RC :=
  .reg [⟨false, none, .mov (.c (.sl .nil 0 [])), some 2⟩] (.reg [⟨false, none, .mov (.c (.int .i64 0)), some 3⟩] (.block 0 (.loop [0, 3] (.reg [⟨false, none, .mov (.t 3), some 6⟩,
  ⟨false, none, .bin .lss (.t 6) (.c (.int .i64 10)), some 7⟩] (.cond (.t 7) (.nop) (.exit 0) (.block 1 (.reg [⟨false, none, .mov (.t 0), some 10⟩,
  ⟨false, none, .mov (.t 3), some 11⟩,
  ⟨false, none, .bin .add (.c (.int .i64 48)) (.t 11), some 12⟩,
  ⟨false, none, .toInt .u8 (.t 12), some 13⟩,
  ⟨false, none, .mov (.t 3), some 14⟩,
  ⟨false, none, .bin .add (.c (.int .i64 240)) (.t 14), some 15⟩,
  ⟨false, none, .toInt .u8 (.t 15), some 16⟩,
  ⟨false, none, .mkSl false 1 2 (.int .u8 0) [(0, .t 13), (1, .t 16)], some 17⟩,
  ⟨false, none, .app 1 (.t 10) (.t 17), some 18⟩,
  ⟨false, none, .mov (.t 18), some 0⟩] (.nop)) (.reg [⟨false, none, .mov (.t 3), some 8⟩,
  ⟨false, none, .bin .add (.t 8) (.c (.int .i64 1)), some 9⟩,
  ⟨false, none, .mov (.t 9), some 3⟩] (.nop)))))) (.reg [⟨false, none, .mov (.c (.int .i64 0)), some 4⟩] (.block 2 (.loop [0, 4] (.reg [⟨false, none, .mov (.t 4), some 19⟩,
  ⟨false, none, .bin .lss (.t 19) (.c (.int .i64 9)), some 20⟩] (.cond (.t 20) (.nop) (.exit 2) (.block 3 (.reg [⟨false, none, .mov (.t 0), some 23⟩,
  ⟨false, none, .mov (.t 4), some 24⟩,
  ⟨false, none, .bin .add (.c (.int .i64 65)) (.t 24), some 25⟩,
  ⟨false, none, .toInt .u8 (.t 25), some 26⟩,
  ⟨false, none, .mov (.t 4), some 27⟩,
  ⟨false, none, .bin .add (.c (.int .i64 193)) (.t 27), some 28⟩,
  ⟨false, none, .toInt .u8 (.t 28), some 29⟩,
  ⟨false, none, .mov (.t 4), some 30⟩,
  ⟨false, none, .bin .add (.c (.int .i64 74)) (.t 30), some 31⟩,
  ⟨false, none, .toInt .u8 (.t 31), some 32⟩,
  ⟨false, none, .mov (.t 4), some 33⟩,
  ⟨false, none, .bin .add (.c (.int .i64 209)) (.t 33), some 34⟩,
  ⟨false, none, .toInt .u8 (.t 34), some 35⟩,
  ⟨false, none, .mov (.t 4), some 36⟩,
  ⟨false, none, .bin .add (.c (.int .i64 97)) (.t 36), some 37⟩,
  ⟨false, none, .toInt .u8 (.t 37), some 38⟩,
  ⟨false, none, .mov (.t 4), some 39⟩,
  ⟨false, none, .bin .add (.c (.int .i64 129)) (.t 39), some 40⟩,
  ⟨false, none, .toInt .u8 (.t 40), some 41⟩,
  ⟨false, none, .mov (.t 4), some 42⟩,
  ⟨false, none, .bin .add (.c (.int .i64 106)) (.t 42), some 43⟩,
  ⟨false, none, .toInt .u8 (.t 43), some 44⟩,
  ⟨false, none, .mov (.t 4), some 45⟩,
  ⟨false, none, .bin .add (.c (.int .i64 145)) (.t 45), some 46⟩,
  ⟨false, none, .toInt .u8 (.t 46), some 47⟩,
  ⟨false, none, .mkSl false 1 8 (.int .u8 0) [(0, .t 26), (1, .t 29), (2, .t 32), (3, .t 35), (4, .t 38), (5, .t 41), (6, .t 44), (7, .t 47)], some 48⟩,
  ⟨false, none, .app 1 (.t 23) (.t 48), some 49⟩,
  ⟨false, none, .mov (.t 49), some 0⟩] (.nop)) (.reg [⟨false, none, .mov (.t 4), some 21⟩,
  ⟨false, none, .bin .add (.t 21) (.c (.int .i64 1)), some 22⟩,
  ⟨false, none, .mov (.t 22), some 4⟩] (.nop)))))) (.reg [⟨false, none, .mov (.c (.int .i64 0)), some 5⟩] (.block 4 (.loop [0, 5] (.reg [⟨false, none, .mov (.t 5), some 50⟩,
  ⟨false, none, .bin .lss (.t 50) (.c (.int .i64 8)), some 51⟩] (.cond (.t 51) (.nop) (.exit 4) (.block 5 (.reg [⟨false, none, .mov (.t 0), some 54⟩,
  ⟨false, none, .mov (.t 5), some 55⟩,
  ⟨false, none, .bin .add (.c (.int .i64 83)) (.t 55), some 56⟩,
  ⟨false, none, .toInt .u8 (.t 56), some 57⟩,
  ⟨false, none, .mov (.t 5), some 58⟩,
  ⟨false, none, .bin .add (.c (.int .i64 226)) (.t 58), some 59⟩,
  ⟨false, none, .toInt .u8 (.t 59), some 60⟩,
  ⟨false, none, .mov (.t 5), some 61⟩,
  ⟨false, none, .bin .add (.c (.int .i64 115)) (.t 61), some 62⟩,
  ⟨false, none, .toInt .u8 (.t 62), some 63⟩,
  ⟨false, none, .mov (.t 5), some 64⟩,
  ⟨false, none, .bin .add (.c (.int .i64 162)) (.t 64), some 65⟩,
  ⟨false, none, .toInt .u8 (.t 65), some 66⟩,
  ⟨false, none, .mkSl false 1 4 (.int .u8 0) [(0, .t 57), (1, .t 60), (2, .t 63), (3, .t 66)], some 67⟩,
  ⟨false, none, .app 1 (.t 54) (.t 67), some 68⟩,
  ⟨false, none, .mov (.t 68), some 0⟩] (.nop)) (.reg [⟨false, none, .mov (.t 5), some 52⟩,
  ⟨false, none, .bin .add (.t 52) (.c (.int .i64 1)), some 53⟩,
  ⟨false, none, .mov (.t 53), some 5⟩] (.nop)))))) (.reg [⟨false, none, .mov (.t 0), some 69⟩,
  ⟨false, none, .mov (.t 69), some 2⟩] (.ret))))))))
def hn_29 : Hn := { M := { own := fun _ => false, rb := fun _ => none, ord := fun _ => [] }, live := fun r => if r = 2 then [0, 3] else if r = 6 then [0, 4] else if r = 10 then [0, 5] else [], ms := [] }
theorem kr_29 : rdy Try.prog hn_29 Try.f29 = some (rc_29, [.t 2], 70) := by kernel_rfl
theorem enA_29 : enterA Try.prog 29 = true := by kernel_rfl
theorem en_29 {args : List AV} {K : AV → ASt → Prop} {S : ASt} (hl : args.length ≤ 70) (h : wpR Try.prog rc_29 (bodyQ [.t 2] K) (argF 0 args) S) : ACalls Try.prog 29 args S K := ACalls.of Try.func29 enA_29 kr_29 hl h

/-- salvor/salvorref1.named -/
def rc_30 : RC :=
  .reg [⟨false, none, .mov (.c (.sl .nil 0 [])), some 0⟩] (.reg [⟨false, none, .mkSl true 1 74 (.int .u8 0) [(0, .c (.int .u8 0)), (1, .c (.int .u8 0)), (2, .c (.int .u8 9)), (3, .c (.int .u8 5)), (4, .c (.int .u8 10)), (5, .c (.int .u8 37)), (6, .c (.int .u8 13)), (7, .c (.int .u8 13)), (8, .c (.int .u8 32)), (9, .c (.int .u8 64)), (10, .c (.int .u8 33)), (11, .c (.int .u8 90)), (12, .c (.int .u8 34)), (13, .c (.int .u8 127)), (14, .c (.int .u8 35)), (15, .c (.int .u8 123)), (16, .c (.int .u8 36)), (17, .c (.int .u8 91)), (18, .c (.int .u8 37)), (19, .c (.int .u8 108)), (20, .c (.int .u8 38)), (21, .c (.int .u8 80)), (22, .c (.int .u8 39)), (23, .c (.int .u8 125)), (24, .c (.int .u8 40)), (25, .c (.int .u8 77)), (26, .c (.int .u8 41)), (27, .c (.int .u8 93)), (28, .c (.int .u8 42)), (29, .c (.int .u8 92)), (30, .c (.int .u8 43)), (31, .c (.int .u8 78)), (32, .c (.int .u8 44)), (33, .c (.int .u8 107)), (34, .c (.int .u8 45)), (35, .c (.int .u8 96)), (36, .c (.int .u8 46)), (37, .c (.int .u8 75)), (38, .c (.int .u8 47)), (39, .c (.int .u8 97)), (40, .c (.int .u8 58)), (41, .c (.int .u8 122)), (42, .c (.int .u8 59)), (43, .c (.int .u8 94)), (44, .c (.int .u8 60)), (45, .c (.int .u8 76)), (46, .c (.int .u8 61)), (47, .c (.int .u8 126)), (48, .c (.int .u8 62)), (49, .c (.int .u8 110)), (50, .c (.int .u8 63)), (51, .c (.int .u8 111)), (52, .c (.int .u8 64)), (53, .c (.int .u8 124)), (54, .c (.int .u8 91)), (55, .c (.int .u8 173)), (56, .c (.int .u8 92)), (57, .c (.int .u8 224)), (58, .c (.int .u8 93)), (59, .c (.int .u8 189)), (60, .c (.int .u8 94)), (61, .c (.int .u8 154)), (62, .c (.int .u8 95)), (63, .c (.int .u8 109)), (64, .c (.int .u8 96)), (65, .c (.int .u8 121)), (66, .c (.int .u8 123)), (67, .c (.int .u8 192)), (68, .c (.int .u8 124)), (69, .c (.int .u8 79)), (70, .c (.int .u8 125)), (71, .c (.int .u8 208)), (72, .c (.int .u8 126)), (73, .c (.int .u8 95))], some 1⟩,
  ⟨false, none, .mov (.t 1), some 0⟩] (.ret))
def hn_30 : Hn := { M := { own := fun d => d == 1, rb := fun _ => none, ord := fun _ => [] }, live := fun _ => [], ms := [] }
theorem kr_30 : rdy Try.prog hn_30 Try.f30 = some (rc_30, [.t 0], 2) := by kernel_rfl
theorem enA_30 : enterA Try.prog 30 = true := by kernel_rfl
theorem en_30 {args : List AV} {K : AV → ASt → Prop} {S : ASt} (hl : args.length ≤ 2) (h : wpR Try.prog rc_30 (bodyQ [.t 0] K) (argF 0 args) S) : ACalls Try.prog 30 args S K := ACalls.of Try.func30 enA_30 kr_30 hl h

end Go.Proofs.Ytffckkiboeiljaa.Abs
