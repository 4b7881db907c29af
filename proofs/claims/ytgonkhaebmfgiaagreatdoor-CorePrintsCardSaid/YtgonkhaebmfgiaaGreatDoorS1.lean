/- The seat: functions by name, the types that are used. No condition. -/
import Derived.Test.YtgonkhaebmfgiaaGreatDoorFpM
import Derived.Test.YtgonkhaebmfgiaaGreatDoorProg
import Derived.KernelRfl
set_option linter.unusedSimpArgs false
set_option linter.unusedVariables false
namespace Go.Proofs.YtgonkhaebmfgiaaGreatDoor
open Go Fp
abbrev zFM:Nat:=13
abbrev zFJ:Nat:=14
abbrev y8:Nat:=16
abbrev qR:Nat:=21
abbrev xB:Nat:=22
abbrev zMK:Nat:=24
abbrev zRB:Nat:=27
abbrev zQ1:Nat:=29
abbrev zP5:Nat:=30
abbrev zEJ:Nat:=31
abbrev zRH:Nat:=32
abbrev zHB:Nat:=35
abbrev qI:Nat:=36
abbrev zKV:Nat:=39
abbrev zPY:Nat:=41
abbrev zB7:Nat:=42
abbrev xI:Nat:=54
abbrev jC:Nat:=55
abbrev zNJ:Nat:=56
abbrev jJ:Nat:=57
abbrev zHJ:Nat:=59
abbrev zCI:Nat:=63
abbrev zE0:Nat:=64
abbrev jL:Nat:=67
abbrev yT:Nat:=68
abbrev zMN:Nat:=69
abbrev zKW:Nat:=70
abbrev zDJ:Nat:=75
abbrev zFE:Nat:=78
abbrev zIN:Nat:=81
abbrev wV:Nat:=82
abbrev zO5:Nat:=84
abbrev zAF:Nat:=87
abbrev zDB:Nat:=88
abbrev zKZ:Nat:=89
abbrev zKX:Nat:=90
abbrev zFP:Nat:=103
abbrev zG9:Nat:=108
abbrev zGL:Nat:=109
abbrev zEN:Nat:=112
abbrev zKY:Nat:=114
abbrev zCY:Nat:=121
abbrev zC9:Nat:=122
abbrev qX:Nat:=124
abbrev zJM:Nat:=130
abbrev zOO:Nat:=131
abbrev zH3:Nat:=135
abbrev zKT:Nat:=137
abbrev zH2:Nat:=138
abbrev zBE:Nat:=140
abbrev zBB:Nat:=145
abbrev zCX:Nat:=149
def tt:TT:=[(1,.sc (.lit .nilFunc)),(2,.sc (.lit (.int .i64 0))),(3,.sc (.lit (.int .i64 0))),(4,.sc (.lit (.bool false))),(5,.sc (.lit (.int .u8 0))),(9,.sc (.lit (.string .empty))),(21,.sc (.lit (.int .i32 0))),(22,.sl 3 1),(23,.sl 25 4),(24,.st 4 [(0,1),(1,1),(2,1),(3,1)] [3,3,9,23] [.lit (.int .i64 0),.lit (.int .i64 0),.lit (.string .empty),.nil]),(25,.st 4 [(0,1),(1,1),(2,1),(3,1)] [3,3,9,23] [.lit (.int .i64 0),.lit (.int .i64 0),.lit (.string .empty),.nil]),(26,.sl 30 10),(27,.sl 72 15),(28,.sl 74 14),(29,.st 10 [(0,1),(1,1),(2,1),(3,4),(7,1),(8,1),(9,1)] [3,3,9,25,26,27,28] [.lit (.int .i64 0),.lit (.int .i64 0),.lit (.string .empty),.lit (.int .i64 0),.lit (.int .i64 0),.lit (.string .empty),.nil,.nil,.nil,.nil]),(30,.st 10 [(0,1),(1,1),(2,1),(3,4),(7,1),(8,1),(9,1)] [3,3,9,25,26,27,28] [.lit (.int .i64 0),.lit (.int .i64 0),.lit (.string .empty),.lit (.int .i64 0),.lit (.int .i64 0),.lit (.string .empty),.nil,.nil,.nil,.nil]),(31,.sc (.lit .nilFunc)),(32,.sc (.lit .nilFunc)),(33,.sc (.lit .nilFunc)),(34,.sc (.lit .nilFunc)),(35,.sc (.lit .nilFunc)),(36,.sc (.lit .nilFunc)),(37,.sc (.lit .nilFunc)),(38,.sc (.lit .nilFunc)),(39,.sc (.lit .nilFunc)),(40,.sc (.lit .nilFunc)),(41,.sc (.lit .nilFunc)),(43,.sc (.lit .nilFunc)),(44,.sc (.lit .nilFunc)),(45,.sc (.lit .nilFunc)),(46,.sc (.lit .nilFunc)),(47,.sl 9 1),(48,.sc (.lit .nilFunc)),(49,.sc (.lit .nilFunc)),(50,.sc (.lit .nilFunc)),(51,.sc (.lit .nilFunc)),(52,.sc (.lit .nilFunc)),(55,.sc (.lit .nilFunc)),(56,.sc (.lit .nilFunc)),(57,.sc (.lit .nilFunc)),(58,.sc (.lit .nilFunc)),(59,.sc (.lit .nilFunc)),(60,.sc (.lit .nilFunc)),(61,.sc (.lit .nilFunc)),(62,.sc (.lit .nilFunc)),(63,.sc (.lit .nilFunc)),(64,.sc (.lit .nilFunc)),(65,.sc (.lit .nilFunc)),(66,.sc (.lit .nilFunc)),(67,.sc (.lit .nilFunc)),(68,.sc (.lit (.pointer none))),(69,.st 2 [(0,1),(1,1)] [22,3] [.nil,.lit (.int .i64 0)]),(70,.st 2 [(0,1),(1,1)] [22,3] [.nil,.lit (.int .i64 0)]),(71,.st 15 [(0,1),(1,4),(5,10)] [9,25,30] [.lit (.string .empty),.lit (.int .i64 0),.lit (.int .i64 0),.lit (.string .empty),.nil,.lit (.int .i64 0),.lit (.int .i64 0),.lit (.string .empty),.lit (.int .i64 0),.lit (.int .i64 0),.lit (.string .empty),.nil,.nil,.nil,.nil]),(72,.st 15 [(0,1),(1,4),(5,10)] [9,25,30] [.lit (.string .empty),.lit (.int .i64 0),.lit (.int .i64 0),.lit (.string .empty),.nil,.lit (.int .i64 0),.lit (.int .i64 0),.lit (.string .empty),.lit (.int .i64 0),.lit (.int .i64 0),.lit (.string .empty),.nil,.nil,.nil,.nil]),(73,.st 14 [(0,1),(1,1),(2,1),(3,1),(4,10)] [3,3,9,47,30] [.lit (.int .i64 0),.lit (.int .i64 0),.lit (.string .empty),.nil,.lit (.int .i64 0),.lit (.int .i64 0),.lit (.string .empty),.lit (.int .i64 0),.lit (.int .i64 0),.lit (.string .empty),.nil,.nil,.nil,.nil]),(74,.st 14 [(0,1),(1,1),(2,1),(3,1),(4,10)] [3,3,9,47,30] [.lit (.int .i64 0),.lit (.int .i64 0),.lit (.string .empty),.nil,.lit (.int .i64 0),.lit (.int .i64 0),.lit (.string .empty),.lit (.int .i64 0),.lit (.int .i64 0),.lit (.string .empty),.nil,.nil,.nil,.nil]),(75,.sc (.lit .nilFunc)),(76,.sc (.lit .nilFunc)),(77,.sc (.lit (.pointer none))),(78,.sl 83 2),(79,.sc (.lit .nilFunc)),(80,.sl 100 1),(81,.sl 77 1),(82,.st 2 [(0,1),(1,1)] [80,81] [.nil,.nil]),(83,.st 2 [(0,1),(1,1)] [80,81] [.nil,.nil]),(84,.sc (.lit .nilFunc)),(85,.sc (.lit .nilFunc)),(87,.sc (.lit .nilFunc)),(88,.sc (.lit .nilFunc)),(90,.sc (.lit .nilFunc)),(91,.sc (.lit .nilFunc)),(92,.sc (.lit .nilFunc)),(93,.sc (.lit .nilFunc)),(94,.sc (.lit .nilFunc)),(95,.sc (.lit .nilFunc)),(96,.sc (.lit .nilFunc)),(97,.sc (.lit .nilFunc)),(98,.sc (.lit .nilFunc)),(99,.sc (.lit .nilFunc)),(100,.sc (.lit (.pointer none))),(101,.sc (.lit .nilFunc)),(102,.sc (.lit .nilFunc)),(103,.sc (.lit .nilFunc)),(104,.st 2 [(0,1),(1,1)] [47,47] [.nil,.nil]),(105,.st 2 [(0,1),(1,1)] [47,47] [.nil,.nil]),(106,.sc (.lit .nilFunc)),(107,.sc (.lit .nilFunc)),(108,.sc (.lit .nilFunc)),(109,.sc (.lit .nilFunc)),(110,.sc (.lit .nilFunc)),(111,.sc (.lit .nilFunc)),(112,.sc (.lit .nilFunc)),(113,.sc (.lit .nilFunc)),(114,.sc (.lit .nilFunc)),(115,.sc (.lit .nilFunc)),(116,.sc (.lit .nilFunc)),(117,.sc (.lit (.pointer none))),(118,.sc (.lit (.pointer none))),(119,.sc (.lit .nilFunc)),(120,.sc (.lit .nilFunc)),(121,.sc (.lit .nilFunc)),(122,.sc (.lit (.pointer none))),(123,.sl 5 1),(124,.st 2 [(0,1),(1,1)] [122,123] [.lit (.pointer none),.nil]),(126,.sc (.lit .nilFunc)),(130,.sc (.lit .nilFunc)),(131,.sc (.lit .nilFunc)),(132,.sc (.lit .nilFunc)),(133,.sc (.lit .nilFunc)),(134,.sc (.lit .nilFunc)),(135,.sc (.lit .nilFunc)),(136,.sc (.lit .nilFunc)),(137,.sc (.lit .nilFunc)),(138,.sc (.lit .nilFunc)),(139,.sc (.lit .nilFunc)),(140,.sc (.lit .nilFunc)),(141,.sc (.lit .nilFunc)),(143,.sc (.lit .nilFunc)),(144,.sc (.lit .nilFunc)),(145,.sc (.lit .nilFunc)),(146,.sc (.lit .nilFunc)),(147,.sc (.lit (.pointer none))),(148,.sc (.lit .nilFunc)),(150,.sc (.lit (.int .u64 0))),(151,.sc (.lit .nilFunc)),(152,.sc (.lit .nilFunc)),(154,.sc (.lit .nilFunc)),(155,.sc (.lit .nilFunc)),(158,.sc (.lit .nilFunc)),(159,.sc (.lit .nilFunc)),(160,.sl 47 1),(161,.sc (.lit .nilFunc)),(162,.sc (.lit .nilFunc)),(164,.sc (.lit (.int .u32 0))),(166,.sc (.lit .nilFunc)),(167,.sc (.lit (.int .u64 0))),(168,.sc (.lit .nilFunc)),(169,.sc (.lit .nilFunc))]
set_option maxRecDepth 100000 in
theorem ttok : zV Tryz.prog tt :=
  ⟨⟨_, _, rfl, rfl, rfl, rfl, rfl, rfl⟩,
   ⟨_, _, rfl, rfl, rfl, rfl, rfl, rfl⟩,
   ⟨_, _, rfl, rfl, rfl, rfl, rfl, rfl⟩,
   ⟨_, _, rfl, rfl, rfl, rfl, rfl, rfl⟩,
   ⟨_, _, rfl, rfl, rfl, rfl, rfl, rfl⟩,
   ⟨_, _, rfl, rfl, rfl, rfl, rfl, rfl⟩,
   ⟨_, _, rfl, rfl, rfl, rfl, rfl, rfl⟩,
   ⟨_, _, _, rfl, rfl, rfl, rfl, rfl, rfl, rfl, rfl, by simp [Value.cells, Value.oneCell'], by decide, by decide, by decide⟩,
   ⟨_, _, _, rfl, rfl, rfl, rfl, rfl, rfl, rfl, rfl, by simp [Value.cells, Value.oneCell'], by decide, by decide, by decide⟩,
   ⟨_, _, rfl, rfl, rfl, rfl, rfl, rfl, rfl, rfl, rfl⟩,
   ⟨_, _, rfl, rfl, rfl, rfl, rfl, rfl, rfl, rfl, rfl⟩,
   ⟨_, _, _, rfl, rfl, rfl, rfl, rfl, rfl, rfl, rfl, by simp [Value.cells, Value.oneCell'], by decide, by decide, by decide⟩,
   ⟨_, _, _, rfl, rfl, rfl, rfl, rfl, rfl, rfl, rfl, by simp [Value.cells, Value.oneCell'], by decide, by decide, by decide⟩,
   ⟨_, _, _, rfl, rfl, rfl, rfl, rfl, rfl, rfl, rfl, by simp [Value.cells, Value.oneCell'], by decide, by decide, by decide⟩,
   ⟨_, _, rfl, rfl, rfl, rfl, rfl, rfl, rfl, rfl, rfl⟩,
   ⟨_, _, rfl, rfl, rfl, rfl, rfl, rfl, rfl, rfl, rfl⟩,
   ⟨_, _, rfl, rfl, rfl, rfl, rfl, rfl⟩,
   ⟨_, _, rfl, rfl, rfl, rfl, rfl, rfl⟩,
   ⟨_, _, rfl, rfl, rfl, rfl, rfl, rfl⟩,
   ⟨_, _, rfl, rfl, rfl, rfl, rfl, rfl⟩,
   ⟨_, _, rfl, rfl, rfl, rfl, rfl, rfl⟩,
   ⟨_, _, rfl, rfl, rfl, rfl, rfl, rfl⟩,
   ⟨_, _, rfl, rfl, rfl, rfl, rfl, rfl⟩,
   ⟨_, _, rfl, rfl, rfl, rfl, rfl, rfl⟩,
   ⟨_, _, rfl, rfl, rfl, rfl, rfl, rfl⟩,
   ⟨_, _, rfl, rfl, rfl, rfl, rfl, rfl⟩,
   ⟨_, _, rfl, rfl, rfl, rfl, rfl, rfl⟩,
   ⟨_, _, rfl, rfl, rfl, rfl, rfl, rfl⟩,
   ⟨_, _, rfl, rfl, rfl, rfl, rfl, rfl⟩,
   ⟨_, _, rfl, rfl, rfl, rfl, rfl, rfl⟩,
   ⟨_, _, rfl, rfl, rfl, rfl, rfl, rfl⟩,
   ⟨_, _, _, rfl, rfl, rfl, rfl, rfl, rfl, rfl, rfl, by simp [Value.cells, Value.oneCell'], by decide, by decide, by decide⟩,
   ⟨_, _, rfl, rfl, rfl, rfl, rfl, rfl⟩,
   ⟨_, _, rfl, rfl, rfl, rfl, rfl, rfl⟩,
   ⟨_, _, rfl, rfl, rfl, rfl, rfl, rfl⟩,
   ⟨_, _, rfl, rfl, rfl, rfl, rfl, rfl⟩,
   ⟨_, _, rfl, rfl, rfl, rfl, rfl, rfl⟩,
   ⟨_, _, rfl, rfl, rfl, rfl, rfl, rfl⟩,
   ⟨_, _, rfl, rfl, rfl, rfl, rfl, rfl⟩,
   ⟨_, _, rfl, rfl, rfl, rfl, rfl, rfl⟩,
   ⟨_, _, rfl, rfl, rfl, rfl, rfl, rfl⟩,
   ⟨_, _, rfl, rfl, rfl, rfl, rfl, rfl⟩,
   ⟨_, _, rfl, rfl, rfl, rfl, rfl, rfl⟩,
   ⟨_, _, rfl, rfl, rfl, rfl, rfl, rfl⟩,
   ⟨_, _, rfl, rfl, rfl, rfl, rfl, rfl⟩,
   ⟨_, _, rfl, rfl, rfl, rfl, rfl, rfl⟩,
   ⟨_, _, rfl, rfl, rfl, rfl, rfl, rfl⟩,
   ⟨_, _, rfl, rfl, rfl, rfl, rfl, rfl⟩,
   ⟨_, _, rfl, rfl, rfl, rfl, rfl, rfl⟩,
   ⟨_, _, rfl, rfl, rfl, rfl, rfl, rfl⟩,
   ⟨_, _, rfl, rfl, rfl, rfl, rfl, rfl⟩,
   ⟨_, _, rfl, rfl, rfl, rfl, rfl, rfl, rfl, rfl, rfl⟩,
   ⟨_, _, rfl, rfl, rfl, rfl, rfl, rfl, rfl, rfl, rfl⟩,
   ⟨_, _, rfl, rfl, rfl, rfl, rfl, rfl, rfl, rfl, rfl⟩,
   ⟨_, _, rfl, rfl, rfl, rfl, rfl, rfl, rfl, rfl, rfl⟩,
   ⟨_, _, rfl, rfl, rfl, rfl, rfl, rfl, rfl, rfl, rfl⟩,
   ⟨_, _, rfl, rfl, rfl, rfl, rfl, rfl, rfl, rfl, rfl⟩,
   ⟨_, _, rfl, rfl, rfl, rfl, rfl, rfl⟩,
   ⟨_, _, rfl, rfl, rfl, rfl, rfl, rfl⟩,
   ⟨_, _, rfl, rfl, rfl, rfl, rfl, rfl⟩,
   ⟨_, _, _, rfl, rfl, rfl, rfl, rfl, rfl, rfl, rfl, by simp [Value.cells, Value.oneCell'], by decide, by decide, by decide⟩,
   ⟨_, _, rfl, rfl, rfl, rfl, rfl, rfl⟩,
   ⟨_, _, _, rfl, rfl, rfl, rfl, rfl, rfl, rfl, rfl, by simp [Value.cells, Value.oneCell'], by decide, by decide, by decide⟩,
   ⟨_, _, _, rfl, rfl, rfl, rfl, rfl, rfl, rfl, rfl, by simp [Value.cells, Value.oneCell'], by decide, by decide, by decide⟩,
   ⟨_, _, rfl, rfl, rfl, rfl, rfl, rfl, rfl, rfl, rfl⟩,
   ⟨_, _, rfl, rfl, rfl, rfl, rfl, rfl, rfl, rfl, rfl⟩,
   ⟨_, _, rfl, rfl, rfl, rfl, rfl, rfl⟩,
   ⟨_, _, rfl, rfl, rfl, rfl, rfl, rfl⟩,
   ⟨_, _, rfl, rfl, rfl, rfl, rfl, rfl⟩,
   ⟨_, _, rfl, rfl, rfl, rfl, rfl, rfl⟩,
   ⟨_, _, rfl, rfl, rfl, rfl, rfl, rfl⟩,
   ⟨_, _, rfl, rfl, rfl, rfl, rfl, rfl⟩,
   ⟨_, _, rfl, rfl, rfl, rfl, rfl, rfl⟩,
   ⟨_, _, rfl, rfl, rfl, rfl, rfl, rfl⟩,
   ⟨_, _, rfl, rfl, rfl, rfl, rfl, rfl⟩,
   ⟨_, _, rfl, rfl, rfl, rfl, rfl, rfl⟩,
   ⟨_, _, rfl, rfl, rfl, rfl, rfl, rfl⟩,
   ⟨_, _, rfl, rfl, rfl, rfl, rfl, rfl⟩,
   ⟨_, _, rfl, rfl, rfl, rfl, rfl, rfl⟩,
   ⟨_, _, rfl, rfl, rfl, rfl, rfl, rfl⟩,
   ⟨_, _, rfl, rfl, rfl, rfl, rfl, rfl⟩,
   ⟨_, _, rfl, rfl, rfl, rfl, rfl, rfl⟩,
   ⟨_, _, rfl, rfl, rfl, rfl, rfl, rfl⟩,
   ⟨_, _, rfl, rfl, rfl, rfl, rfl, rfl⟩,
   ⟨_, _, rfl, rfl, rfl, rfl, rfl, rfl, rfl, rfl, rfl⟩,
   ⟨_, _, rfl, rfl, rfl, rfl, rfl, rfl, rfl, rfl, rfl⟩,
   ⟨_, _, rfl, rfl, rfl, rfl, rfl, rfl⟩,
   ⟨_, _, rfl, rfl, rfl, rfl, rfl, rfl⟩,
   ⟨_, _, rfl, rfl, rfl, rfl, rfl, rfl⟩,
   ⟨_, _, rfl, rfl, rfl, rfl, rfl, rfl⟩,
   ⟨_, _, rfl, rfl, rfl, rfl, rfl, rfl⟩,
   ⟨_, _, rfl, rfl, rfl, rfl, rfl, rfl⟩,
   ⟨_, _, rfl, rfl, rfl, rfl, rfl, rfl⟩,
   ⟨_, _, rfl, rfl, rfl, rfl, rfl, rfl⟩,
   ⟨_, _, rfl, rfl, rfl, rfl, rfl, rfl⟩,
   ⟨_, _, rfl, rfl, rfl, rfl, rfl, rfl⟩,
   ⟨_, _, rfl, rfl, rfl, rfl, rfl, rfl⟩,
   ⟨_, _, rfl, rfl, rfl, rfl, rfl, rfl⟩,
   ⟨_, _, rfl, rfl, rfl, rfl, rfl, rfl⟩,
   ⟨_, _, rfl, rfl, rfl, rfl, rfl, rfl⟩,
   ⟨_, _, rfl, rfl, rfl, rfl, rfl, rfl⟩,
   ⟨_, _, rfl, rfl, rfl, rfl, rfl, rfl⟩,
   ⟨_, _, rfl, rfl, rfl, rfl, rfl, rfl⟩,
   ⟨_, _, _, rfl, rfl, rfl, rfl, rfl, rfl, rfl, rfl, by simp [Value.cells, Value.oneCell'], by decide, by decide, by decide⟩,
   ⟨_, _, rfl, rfl, rfl, rfl, rfl, rfl, rfl, rfl, rfl⟩,
   ⟨_, _, rfl, rfl, rfl, rfl, rfl, rfl⟩,
   ⟨_, _, rfl, rfl, rfl, rfl, rfl, rfl⟩,
   ⟨_, _, rfl, rfl, rfl, rfl, rfl, rfl⟩,
   ⟨_, _, rfl, rfl, rfl, rfl, rfl, rfl⟩,
   ⟨_, _, rfl, rfl, rfl, rfl, rfl, rfl⟩,
   ⟨_, _, rfl, rfl, rfl, rfl, rfl, rfl⟩,
   ⟨_, _, rfl, rfl, rfl, rfl, rfl, rfl⟩,
   ⟨_, _, rfl, rfl, rfl, rfl, rfl, rfl⟩,
   ⟨_, _, rfl, rfl, rfl, rfl, rfl, rfl⟩,
   ⟨_, _, rfl, rfl, rfl, rfl, rfl, rfl⟩,
   ⟨_, _, rfl, rfl, rfl, rfl, rfl, rfl⟩,
   ⟨_, _, rfl, rfl, rfl, rfl, rfl, rfl⟩,
   ⟨_, _, rfl, rfl, rfl, rfl, rfl, rfl⟩,
   ⟨_, _, rfl, rfl, rfl, rfl, rfl, rfl⟩,
   ⟨_, _, rfl, rfl, rfl, rfl, rfl, rfl⟩,
   ⟨_, _, rfl, rfl, rfl, rfl, rfl, rfl⟩,
   ⟨_, _, rfl, rfl, rfl, rfl, rfl, rfl⟩,
   ⟨_, _, rfl, rfl, rfl, rfl, rfl, rfl⟩,
   ⟨_, _, rfl, rfl, rfl, rfl, rfl, rfl⟩,
   ⟨_, _, rfl, rfl, rfl, rfl, rfl, rfl⟩,
   ⟨_, _, rfl, rfl, rfl, rfl, rfl, rfl⟩,
   ⟨_, _, rfl, rfl, rfl, rfl, rfl, rfl⟩,
   ⟨_, _, rfl, rfl, rfl, rfl, rfl, rfl⟩,
   ⟨_, _, rfl, rfl, rfl, rfl, rfl, rfl⟩,
   ⟨_, _, rfl, rfl, rfl, rfl, rfl, rfl⟩,
   ⟨_, _, rfl, rfl, rfl, rfl, rfl, rfl⟩,
   ⟨_, _, _, rfl, rfl, rfl, rfl, rfl, rfl, rfl, rfl, by simp [Value.cells, Value.oneCell'], by decide, by decide, by decide⟩,
   ⟨_, _, rfl, rfl, rfl, rfl, rfl, rfl⟩,
   ⟨_, _, rfl, rfl, rfl, rfl, rfl, rfl⟩,
   ⟨_, _, rfl, rfl, rfl, rfl, rfl, rfl⟩,
   ⟨_, _, rfl, rfl, rfl, rfl, rfl, rfl⟩,
   ⟨_, _, rfl, rfl, rfl, rfl, rfl, rfl⟩,
   ⟨_, _, rfl, rfl, rfl, rfl, rfl, rfl⟩,
   ⟨_, _, rfl, rfl, rfl, rfl, rfl, rfl⟩, trivial⟩
theorem mixed:Tryz.prog.follows .mixedOrders=true:=by kernel_rfl
end Go.Proofs.YtgonkhaebmfgiaaGreatDoor
