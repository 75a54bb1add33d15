/- The code of functions that can be run whole. -/
import Derived.Test.YtffckkiboeiljaaCode1
import Derived.Test.YtffckkiboeiljaaEv2
namespace Go.Proofs.Ytffckkiboeiljaa.Abs
open Go Go.Proofs
set_option linter.unusedVariables false
def code : CT :=
  [(3, (rc_3, [.t 0], 25)),
   (5, (rc_5, [.t 2], 138)),
   (6, (rc_6, [.t 2], 74)),
   (9, (rc_9, [.t 0], 27)),
   (10, (rc_10, [.t 4], 22)),
   (11, (rc_11, [.cellN 0 256], 7)),
   (12, (rc_12, [.cellN 0 256], 2)),
   (13, (rc_13, [.cellN 0 256], 7)),
   (14, (rc_14, [.cellN 2 256], 27)),
   (16, (rc_16, [.cellN 0 256], 2)),
   (17, (rc_17, [.cellN 0 256], 15)),
   (18, (rc_18, [.cellN 0 256], 15)),
   (19, (rc_19, [.cellN 0 256], 15)),
   (20, (rc_20, [.cellN 0 256], 4)),
   (21, (rc_21, [.cellN 0 256], 30)),
   (22, (rc_22, [.cellN 0 256], 16)),
   (23, (rc_23, [.cellN 2 256], 63)),
   (24, (rc_24, [.t 0], 44)),
   (25, (rc_25, [.cellN 4 256], 20)),
   (26, (rc_26, [.cellN 0 256], 12)),
   (27, (rc_27, [.cellN 0 256], 12)),
   (28, (rc_28, [.cellN 2 256], 56)),
   (29, (rc_29, [.t 2], 70)),
   (30, (rc_30, [.t 0], 2))]
theorem code_ok : CodeOk Try.prog code :=
  .cons en_3 (.cons en_5 (.cons en_6 (.cons en_9 (.cons en_10 (.cons en_11 (.cons en_12 (.cons en_13 (.cons en_14 (.cons en_16 (.cons en_17 (.cons en_18 (.cons en_19 (.cons en_20 (.cons en_21 (.cons en_22 (.cons en_23 (.cons en_24 (.cons en_25 (.cons en_26 (.cons en_27 (.cons en_28 (.cons en_29 (.cons en_30 (.nil))))))))))))))))))))))))
end Go.Proofs.Ytffckkiboeiljaa.Abs
