/- The code of functions that can be run whole. -/
import Derived.Test.YthpomdoaiibnfaaCode1
import Derived.Test.YthpomdoaiibnfaaEv2
namespace Go.Proofs.Ythpomdoaiibnfaa.Abs
open Go Go.Proofs
set_option linter.unusedVariables false
def code : CT :=
  [(20, (rc_20, [.cellN 0 256], 2)),
   (21, (rc_21, [.cellN 0 256], 2)),
   (22, (rc_22, [.cellN 0 256], 7)),
   (23, (rc_23, [.cellN 0 256], 7)),
   (25, (rc_25, [.cellN 0 256], 15)),
   (42, (rc_42, [.cellN 4 256], 20)),
   (43, (rc_43, [.cellN 2 256], 63)),
   (44, (rc_44, [.t 0], 44)),
   (45, (rc_45, [.cellN 0 256], 12)),
   (58, (rc_58, [.cellN 0 256], 4)),
   (59, (rc_59, [.cellN 0 256], 30)),
   (62, (rc_62, [.cellN 0 256], 16)),
   (63, (rc_63, [.cellN 0 256], 15)),
   (64, (rc_64, [.cellN 0 256], 15)),
   (68, (rc_68, [.cellN 2 256], 56)),
   (69, (rc_69, [.t 2], 70)),
   (70, (rc_70, [.t 0], 2)),
   (71, (rc_71, [.cellN 0 256], 12))]
theorem code_ok : CodeOk Try.prog code :=
  .cons en_20 (.cons en_21 (.cons en_22 (.cons en_23 (.cons en_25 (.cons en_42 (.cons en_43 (.cons en_44 (.cons en_45 (.cons en_58 (.cons en_59 (.cons en_62 (.cons en_63 (.cons en_64 (.cons en_68 (.cons en_69 (.cons en_70 (.cons en_71 (.nil))))))))))))))))))
end Go.Proofs.Ythpomdoaiibnfaa.Abs
