/- The seat: functions by name, the types that are used. No condition. -/
import Derived.Test.YtdmbahepaglcbaaGreatDoorFpN
import Derived.Test.YtdmbahepaglcbaaGreatDoorProg
import Derived.KernelRfl
set_option linter.unusedSimpArgs false
set_option linter.unusedVariables false
namespace Go.Proofs.YtdmbahepaglcbaaGreatDoor
open Go Fp
abbrev zHJ:Nat:=10
abbrev zT9:Nat:=13
abbrev zRV:Nat:=14
abbrev zFS:Nat:=16
abbrev qI:Nat:=17
abbrev zUM:Nat:=21
abbrev zUR:Nat:=22
abbrev zAE:Nat:=23
abbrev zAA:Nat:=24
abbrev zW7:Nat:=25
abbrev zTW:Nat:=26
abbrev zR0:Nat:=27
abbrev zJI:Nat:=28
abbrev zGS:Nat:=29
abbrev zHS:Nat:=36
abbrev zOE:Nat:=43
abbrev zES:Nat:=44
abbrev zEA:Nat:=47
abbrev zU2:Nat:=48
abbrev zTC:Nat:=49
abbrev zR4:Nat:=50
abbrev zFY:Nat:=51
abbrev wH:Nat:=56
abbrev zMR:Nat:=57
abbrev zGR:Nat:=58
abbrev zIT:Nat:=59
abbrev zKP:Nat:=60
abbrev zCK:Nat:=61
abbrev zJP:Nat:=62
abbrev zE5:Nat:=63
abbrev zEP:Nat:=67
abbrev zN3:Nat:=68
abbrev zBM:Nat:=79
abbrev zOB:Nat:=80
abbrev zIE:Nat:=81
abbrev zGW:Nat:=84
abbrev zGL:Nat:=85
abbrev zG1:Nat:=86
abbrev zOC:Nat:=87
abbrev zF5:Nat:=102
abbrev zI7:Nat:=103
abbrev zHZ:Nat:=104
abbrev zQY:Nat:=107
abbrev zDW:Nat:=127
abbrev zAP:Nat:=128
abbrev zLE:Nat:=129
abbrev zN7:Nat:=133
abbrev zKN:Nat:=134
abbrev wM:Nat:=135
abbrev zRS:Nat:=138
abbrev zKO:Nat:=145
abbrev zHK:Nat:=146
abbrev zN1:Nat:=149
abbrev zN2:Nat:=155
abbrev wI:Nat:=157
abbrev zCQ:Nat:=158
def tt:TT:=[(1,.sc (.lit .nilFunc)),(2,.sc (.lit (.int .i64 0))),(3,.sc (.lit (.int .i64 0))),(4,.sc (.lit (.bool false))),(5,.sc (.lit (.int .u8 0))),(9,.sc (.lit (.string .empty))),(21,.sc (.lit (.int .i32 0))),(22,.sl 3 1),(23,.sl 22 1),(24,.sl 44 5),(25,.sl 78 5),(27,.sc (.lit .nilFunc)),(28,.sl 30 4),(29,.st 4 [(0,1),(1,1),(2,1),(3,1)] [3,3,9,28] [.lit (.int .i64 0),.lit (.int .i64 0),.lit (.string .empty),.nil]),(30,.st 4 [(0,1),(1,1),(2,1),(3,1)] [3,3,9,28] [.lit (.int .i64 0),.lit (.int .i64 0),.lit (.string .empty),.nil]),(31,.sl 35 10),(32,.sl 54 15),(33,.sl 76 14),(34,.st 10 [(0,1),(1,1),(2,1),(3,4),(7,1),(8,1),(9,1)] [3,3,9,30,31,32,33] [.lit (.int .i64 0),.lit (.int .i64 0),.lit (.string .empty),.lit (.int .i64 0),.lit (.int .i64 0),.lit (.string .empty),.nil,.nil,.nil,.nil]),(35,.st 10 [(0,1),(1,1),(2,1),(3,4),(7,1),(8,1),(9,1)] [3,3,9,30,31,32,33] [.lit (.int .i64 0),.lit (.int .i64 0),.lit (.string .empty),.lit (.int .i64 0),.lit (.int .i64 0),.lit (.string .empty),.nil,.nil,.nil,.nil]),(36,.sc (.lit .nilFunc)),(37,.sl 73 8),(38,.sc (.lit .nilFunc)),(39,.sc (.lit (.int .i64 0))),(41,.sc (.lit .nilFunc)),(42,.sc (.lit .nilFunc)),(43,.st 5 [(0,1),(1,4)] [9,30] [.lit (.string .empty),.lit (.int .i64 0),.lit (.int .i64 0),.lit (.string .empty),.nil]),(44,.st 5 [(0,1),(1,4)] [9,30] [.lit (.string .empty),.lit (.int .i64 0),.lit (.int .i64 0),.lit (.string .empty),.nil]),(45,.sc (.lit .nilFunc)),(46,.sc (.lit .nilFunc)),(47,.sc (.lit .nilFunc)),(48,.sc (.lit .nilFunc)),(49,.sc (.lit .nilFunc)),(51,.sc (.lit .nilFunc)),(52,.sc (.lit .nilFunc)),(53,.st 15 [(0,1),(1,4),(5,10)] [9,30,35] [.lit (.string .empty),.lit (.int .i64 0),.lit (.int .i64 0),.lit (.string .empty),.nil,.lit (.int .i64 0),.lit (.int .i64 0),.lit (.string .empty),.lit (.int .i64 0),.lit (.int .i64 0),.lit (.string .empty),.nil,.nil,.nil,.nil]),(54,.st 15 [(0,1),(1,4),(5,10)] [9,30,35] [.lit (.string .empty),.lit (.int .i64 0),.lit (.int .i64 0),.lit (.string .empty),.nil,.lit (.int .i64 0),.lit (.int .i64 0),.lit (.string .empty),.lit (.int .i64 0),.lit (.int .i64 0),.lit (.string .empty),.nil,.nil,.nil,.nil]),(55,.sc (.lit .nilFunc)),(56,.sc (.lit .nilFunc)),(57,.sc (.lit .nilFunc)),(58,.sc (.lit .nilFunc)),(59,.sc (.lit .nilFunc)),(60,.sc (.lit .nilFunc)),(61,.sc (.lit .nilFunc)),(62,.sc (.lit .nilFunc)),(63,.sc (.lit .nilFunc)),(64,.sc (.lit .nilFunc)),(65,.sl 9 1),(66,.sc (.lit .nilFunc)),(67,.sc (.lit .nilFunc)),(68,.sc (.lit .nilFunc)),(69,.sc (.lit .nilFunc)),(70,.sc (.lit .nilFunc)),(71,.sc (.lit .nilFunc)),(72,.st 8 [(0,1),(1,1),(2,1),(3,1),(4,4)] [9,3,3,3,30] [.lit (.string .empty),.lit (.int .i64 0),.lit (.int .i64 0),.lit (.int .i64 0),.lit (.int .i64 0),.lit (.int .i64 0),.lit (.string .empty),.nil]),(73,.st 8 [(0,1),(1,1),(2,1),(3,1),(4,4)] [9,3,3,3,30] [.lit (.string .empty),.lit (.int .i64 0),.lit (.int .i64 0),.lit (.int .i64 0),.lit (.int .i64 0),.lit (.int .i64 0),.lit (.string .empty),.nil]),(74,.sc (.lit .nilFunc)),(75,.st 14 [(0,1),(1,1),(2,1),(3,1),(4,10)] [3,3,9,65,35] [.lit (.int .i64 0),.lit (.int .i64 0),.lit (.string .empty),.nil,.lit (.int .i64 0),.lit (.int .i64 0),.lit (.string .empty),.lit (.int .i64 0),.lit (.int .i64 0),.lit (.string .empty),.nil,.nil,.nil,.nil]),(76,.st 14 [(0,1),(1,1),(2,1),(3,1),(4,10)] [3,3,9,65,35] [.lit (.int .i64 0),.lit (.int .i64 0),.lit (.string .empty),.nil,.lit (.int .i64 0),.lit (.int .i64 0),.lit (.string .empty),.lit (.int .i64 0),.lit (.int .i64 0),.lit (.string .empty),.nil,.nil,.nil,.nil]),(77,.sc (.lit .nilFunc)),(78,.st 5 [(0,1),(1,4)] [9,30] [.lit (.string .empty),.lit (.int .i64 0),.lit (.int .i64 0),.lit (.string .empty),.nil]),(79,.sc (.lit .nilFunc)),(80,.sc (.lit (.pointer none))),(81,.sc (.lit .nilFunc)),(82,.st 2 [(0,1),(1,1)] [22,3] [.nil,.lit (.int .i64 0)]),(83,.st 2 [(0,1),(1,1)] [22,3] [.nil,.lit (.int .i64 0)]),(84,.sc (.lit .nilFunc)),(85,.sc (.lit .nilFunc)),(86,.sc (.lit .nilFunc)),(87,.st 5 [(0,1),(1,1),(2,1),(3,1),(4,1)] [37,24,65,28,3] [.nil,.nil,.nil,.nil,.lit (.int .i64 0)]),(88,.st 5 [(0,1),(1,1),(2,1),(3,1),(4,1)] [37,24,65,28,3] [.nil,.nil,.nil,.nil,.lit (.int .i64 0)]),(89,.sc (.lit .nilFunc)),(90,.sc (.lit .nilFunc)),(91,.sc (.lit .nilFunc)),(92,.sc (.lit .nilFunc)),(93,.sc (.lit (.pointer none))),(94,.st 2 [(0,1),(1,1)] [22,3] [.nil,.lit (.int .i64 0)]),(95,.sc (.lit .nilFunc)),(96,.sc (.lit .nilFunc)),(97,.sc (.lit .nilFunc)),(98,.st 3 [(0,1),(1,1),(2,1)] [25,65,3] [.nil,.nil,.lit (.int .i64 0)]),(99,.st 3 [(0,1),(1,1),(2,1)] [25,65,3] [.nil,.nil,.lit (.int .i64 0)]),(100,.sc (.lit .nilFunc)),(101,.sc (.lit .nilFunc)),(102,.sc (.lit .nilFunc)),(104,.sc (.lit .nilFunc)),(105,.sc (.lit .nilFunc)),(106,.sc (.lit .nilFunc)),(107,.sc (.lit .nilFunc)),(108,.sc (.lit .nilFunc)),(109,.st 5 [(0,1),(1,1),(2,1),(3,1),(4,1)] [37,25,65,28,3] [.nil,.nil,.nil,.nil,.lit (.int .i64 0)]),(110,.st 5 [(0,1),(1,1),(2,1),(3,1),(4,1)] [37,25,65,28,3] [.nil,.nil,.nil,.nil,.lit (.int .i64 0)]),(112,.sc (.lit .nilFunc)),(114,.sc (.lit .nilFunc)),(115,.sc (.lit .nilFunc)),(116,.sc (.lit .nilFunc)),(117,.sc (.lit .nilFunc)),(118,.st 0 [] [] []),(119,.st 0 [] [] []),(121,.sc (.lit .nilFunc)),(122,.st 2 [(0,1),(1,1)] [3,121] [.lit (.int .i64 0),.lit .nilFunc]),(124,.mp 3 122),(125,.sc (.lit .nilFunc)),(126,.sc (.lit .nilFunc)),(127,.sl 5 1),(128,.sc (.lit .nilFunc)),(130,.sc (.lit .nilFunc)),(131,.sc (.lit .nilFunc)),(132,.sc (.lit .nilFunc)),(133,.sc (.lit .nilFunc)),(134,.sc (.lit .nilFunc)),(135,.sc (.lit .nilFunc)),(136,.sc (.lit .nilFunc)),(137,.sc (.lit .nilFunc)),(139,.sc (.lit .nilFunc)),(140,.sc (.lit .nilFunc)),(141,.sc (.lit .nilFunc)),(142,.sc (.lit .nilFunc)),(143,.sc (.lit .nilFunc)),(144,.sc (.lit .nilFunc)),(145,.sc (.lit .nilFunc)),(146,.sc (.lit .nilFunc)),(147,.sl 153 2),(148,.sc (.lit .nilFunc)),(149,.sc (.lit (.pointer none))),(150,.sl 168 1),(151,.sl 149 1),(152,.st 2 [(0,1),(1,1)] [150,151] [.nil,.nil]),(153,.st 2 [(0,1),(1,1)] [150,151] [.nil,.nil]),(154,.sc (.lit .nilFunc)),(155,.mp 9 118),(157,.sc (.lit .nilFunc)),(158,.sc (.lit .nilFunc)),(159,.sc (.lit .nilFunc)),(161,.sc (.lit .nilFunc)),(162,.sc (.lit .nilFunc)),(163,.sc (.lit .nilFunc)),(165,.sc (.lit .nilFunc)),(166,.sc (.lit .nilFunc)),(167,.sc (.lit .nilFunc)),(168,.sc (.lit (.pointer none))),(169,.sc (.lit (.pointer none))),(170,.sc (.lit (.pointer none))),(171,.sc (.lit .nilFunc)),(172,.sc (.lit .nilFunc)),(173,.sc (.lit .nilFunc)),(174,.sc (.lit .nilFunc)),(175,.sc (.lit .nilFunc)),(176,.sc (.lit .nilFunc)),(177,.sc (.lit .nilFunc)),(178,.sc (.lit .nilFunc)),(179,.sc (.lit .nilFunc)),(180,.sc (.lit .nilFunc)),(181,.sl 24 1),(182,.sc (.lit .nilFunc)),(184,.sc (.lit .nilFunc)),(185,.sc (.lit .nilFunc)),(186,.sc (.lit .nilFunc)),(187,.sc (.lit .nilFunc)),(189,.sc (.lit .nilFunc)),(190,.sc (.lit .nilFunc)),(191,.sc (.lit .nilFunc)),(193,.sc (.lit (.int .u64 0))),(194,.sc (.lit .nilFunc)),(195,.sc (.lit .nilFunc)),(197,.sc (.lit .nilFunc)),(199,.sc (.lit (.int .u32 0))),(201,.sc (.lit .nilFunc)),(202,.sc (.lit (.int .u64 0))),(203,.sc (.lit .nilFunc)),(204,.sc (.lit .nilFunc)),(207,.sc (.lit .nilFunc)),(216,.sc (.lit (.pointer none))),(221,.sc (.lit .nilFunc))]
set_option maxRecDepth 100000 in
theorem ttok : zU Tryz.prog tt :=
  ⟨⟨_, _, rfl, rfl, rfl, rfl, rfl, rfl⟩,
   ⟨_, _, rfl, rfl, rfl, rfl, rfl, rfl⟩,
   ⟨_, _, rfl, rfl, rfl, rfl, rfl, rfl⟩,
   ⟨_, _, rfl, rfl, rfl, rfl, rfl, rfl⟩,
   ⟨_, _, rfl, rfl, rfl, rfl, rfl, rfl⟩,
   ⟨_, _, rfl, rfl, rfl, rfl, rfl, rfl⟩,
   ⟨_, _, rfl, rfl, rfl, rfl, rfl, rfl⟩,
   ⟨_, _, _, rfl, rfl, rfl, rfl, rfl, rfl, rfl, rfl, by simp [Value.cells, Value.oneCell'], by decide, by decide, by decide⟩,
   ⟨_, _, _, rfl, rfl, rfl, rfl, rfl, rfl, rfl, rfl, by simp [Value.cells, Value.oneCell'], by decide, by decide, by decide⟩,
   ⟨_, _, _, rfl, rfl, rfl, rfl, rfl, rfl, rfl, rfl, by simp [Value.cells, Value.oneCell'], by decide, by decide, by decide⟩,
   ⟨_, _, _, rfl, rfl, rfl, rfl, rfl, rfl, rfl, rfl, by simp [Value.cells, Value.oneCell'], by decide, by decide, by decide⟩,
   ⟨_, _, rfl, rfl, rfl, rfl, rfl, rfl⟩,
   ⟨_, _, _, rfl, rfl, rfl, rfl, rfl, rfl, rfl, rfl, by simp [Value.cells, Value.oneCell'], by decide, by decide, by decide⟩,
   ⟨_, _, rfl, rfl, rfl, rfl, rfl, rfl, rfl, rfl, rfl⟩,
   ⟨_, _, rfl, rfl, rfl, rfl, rfl, rfl, rfl, rfl, rfl⟩,
   ⟨_, _, _, rfl, rfl, rfl, rfl, rfl, rfl, rfl, rfl, by simp [Value.cells, Value.oneCell'], by decide, by decide, by decide⟩,
   ⟨_, _, _, rfl, rfl, rfl, rfl, rfl, rfl, rfl, rfl, by simp [Value.cells, Value.oneCell'], by decide, by decide, by decide⟩,
   ⟨_, _, _, rfl, rfl, rfl, rfl, rfl, rfl, rfl, rfl, by simp [Value.cells, Value.oneCell'], by decide, by decide, by decide⟩,
   ⟨_, _, rfl, rfl, rfl, rfl, rfl, rfl, rfl, rfl, rfl⟩,
   ⟨_, _, rfl, rfl, rfl, rfl, rfl, rfl, rfl, rfl, rfl⟩,
   ⟨_, _, rfl, rfl, rfl, rfl, rfl, rfl⟩,
   ⟨_, _, _, rfl, rfl, rfl, rfl, rfl, rfl, rfl, rfl, by simp [Value.cells, Value.oneCell'], by decide, by decide, by decide⟩,
   ⟨_, _, rfl, rfl, rfl, rfl, rfl, rfl⟩,
   ⟨_, _, rfl, rfl, rfl, rfl, rfl, rfl⟩,
   ⟨_, _, rfl, rfl, rfl, rfl, rfl, rfl⟩,
   ⟨_, _, rfl, rfl, rfl, rfl, rfl, rfl⟩,
   ⟨_, _, rfl, rfl, rfl, rfl, rfl, rfl, rfl, rfl, rfl⟩,
   ⟨_, _, rfl, rfl, rfl, rfl, rfl, rfl, rfl, rfl, rfl⟩,
   ⟨_, _, rfl, rfl, rfl, rfl, rfl, rfl⟩,
   ⟨_, _, rfl, rfl, rfl, rfl, rfl, rfl⟩,
   ⟨_, _, rfl, rfl, rfl, rfl, rfl, rfl⟩,
   ⟨_, _, rfl, rfl, rfl, rfl, rfl, rfl⟩,
   ⟨_, _, rfl, rfl, rfl, rfl, rfl, rfl⟩,
   ⟨_, _, rfl, rfl, rfl, rfl, rfl, rfl⟩,
   ⟨_, _, rfl, rfl, rfl, rfl, rfl, rfl⟩,
   ⟨_, _, rfl, rfl, rfl, rfl, rfl, rfl, rfl, rfl, rfl⟩,
   ⟨_, _, rfl, rfl, rfl, rfl, rfl, rfl, rfl, rfl, rfl⟩,
   ⟨_, _, rfl, rfl, rfl, rfl, rfl, rfl⟩,
   ⟨_, _, rfl, rfl, rfl, rfl, rfl, rfl⟩,
   ⟨_, _, rfl, rfl, rfl, rfl, rfl, rfl⟩,
   ⟨_, _, rfl, rfl, rfl, rfl, rfl, rfl⟩,
   ⟨_, _, rfl, rfl, rfl, rfl, rfl, rfl⟩,
   ⟨_, _, rfl, rfl, rfl, rfl, rfl, rfl⟩,
   ⟨_, _, rfl, rfl, rfl, rfl, rfl, rfl⟩,
   ⟨_, _, rfl, rfl, rfl, rfl, rfl, rfl⟩,
   ⟨_, _, rfl, rfl, rfl, rfl, rfl, rfl⟩,
   ⟨_, _, rfl, rfl, rfl, rfl, rfl, rfl⟩,
   ⟨_, _, _, rfl, rfl, rfl, rfl, rfl, rfl, rfl, rfl, by simp [Value.cells, Value.oneCell'], by decide, by decide, by decide⟩,
   ⟨_, _, rfl, rfl, rfl, rfl, rfl, rfl⟩,
   ⟨_, _, rfl, rfl, rfl, rfl, rfl, rfl⟩,
   ⟨_, _, rfl, rfl, rfl, rfl, rfl, rfl⟩,
   ⟨_, _, rfl, rfl, rfl, rfl, rfl, rfl⟩,
   ⟨_, _, rfl, rfl, rfl, rfl, rfl, rfl⟩,
   ⟨_, _, rfl, rfl, rfl, rfl, rfl, rfl⟩,
   ⟨_, _, rfl, rfl, rfl, rfl, rfl, rfl, rfl, rfl, rfl⟩,
   ⟨_, _, rfl, rfl, rfl, rfl, rfl, rfl, rfl, rfl, rfl⟩,
   ⟨_, _, rfl, rfl, rfl, rfl, rfl, rfl⟩,
   ⟨_, _, rfl, rfl, rfl, rfl, rfl, rfl, rfl, rfl, rfl⟩,
   ⟨_, _, rfl, rfl, rfl, rfl, rfl, rfl, rfl, rfl, rfl⟩,
   ⟨_, _, rfl, rfl, rfl, rfl, rfl, rfl⟩,
   ⟨_, _, rfl, rfl, rfl, rfl, rfl, rfl, rfl, rfl, rfl⟩,
   ⟨_, _, rfl, rfl, rfl, rfl, rfl, rfl⟩,
   ⟨_, _, rfl, rfl, rfl, rfl, rfl, rfl⟩,
   ⟨_, _, rfl, rfl, rfl, rfl, rfl, rfl⟩,
   ⟨_, _, rfl, rfl, rfl, rfl, rfl, rfl, rfl, rfl, rfl⟩,
   ⟨_, _, rfl, rfl, rfl, rfl, rfl, rfl, rfl, rfl, rfl⟩,
   ⟨_, _, rfl, rfl, rfl, rfl, rfl, rfl⟩,
   ⟨_, _, rfl, rfl, rfl, rfl, rfl, rfl⟩,
   ⟨_, _, rfl, rfl, rfl, rfl, rfl, rfl⟩,
   ⟨_, _, rfl, rfl, rfl, rfl, rfl, rfl, rfl, rfl, rfl⟩,
   ⟨_, _, rfl, rfl, rfl, rfl, rfl, rfl, rfl, rfl, rfl⟩,
   ⟨_, _, rfl, rfl, rfl, rfl, rfl, rfl⟩,
   ⟨_, _, rfl, rfl, rfl, rfl, rfl, rfl⟩,
   ⟨_, _, rfl, rfl, rfl, rfl, rfl, rfl⟩,
   ⟨_, _, rfl, rfl, rfl, rfl, rfl, rfl⟩,
   ⟨_, _, rfl, rfl, rfl, rfl, rfl, rfl⟩,
   ⟨_, _, rfl, rfl, rfl, rfl, rfl, rfl, rfl, rfl, rfl⟩,
   ⟨_, _, rfl, rfl, rfl, rfl, rfl, rfl⟩,
   ⟨_, _, rfl, rfl, rfl, rfl, rfl, rfl⟩,
   ⟨_, _, rfl, rfl, rfl, rfl, rfl, rfl⟩,
   ⟨_, _, rfl, rfl, rfl, rfl, rfl, rfl, rfl, rfl, rfl⟩,
   ⟨_, _, rfl, rfl, rfl, rfl, rfl, rfl, rfl, rfl, rfl⟩,
   ⟨_, _, rfl, rfl, rfl, rfl, rfl, rfl⟩,
   ⟨_, _, rfl, rfl, rfl, rfl, rfl, rfl⟩,
   ⟨_, _, rfl, rfl, rfl, rfl, rfl, rfl⟩,
   ⟨_, _, rfl, rfl, rfl, rfl, rfl, rfl⟩,
   ⟨_, _, rfl, rfl, rfl, rfl, rfl, rfl⟩,
   ⟨_, _, rfl, rfl, rfl, rfl, rfl, rfl⟩,
   ⟨_, _, rfl, rfl, rfl, rfl, rfl, rfl⟩,
   ⟨_, _, rfl, rfl, rfl, rfl, rfl, rfl⟩,
   ⟨_, _, rfl, rfl, rfl, rfl, rfl, rfl, rfl, rfl, rfl⟩,
   ⟨_, _, rfl, rfl, rfl, rfl, rfl, rfl, rfl, rfl, rfl⟩,
   ⟨_, _, rfl, rfl, rfl, rfl, rfl, rfl⟩,
   ⟨_, _, rfl, rfl, rfl, rfl, rfl, rfl⟩,
   ⟨_, _, rfl, rfl, rfl, rfl, rfl, rfl⟩,
   ⟨_, _, rfl, rfl, rfl, rfl, rfl, rfl⟩,
   ⟨_, _, rfl, rfl, rfl, rfl, rfl, rfl⟩,
   ⟨_, _, rfl, rfl, rfl, rfl, rfl, rfl, rfl, rfl, rfl⟩,
   ⟨_, _, rfl, rfl, rfl, rfl, rfl, rfl, rfl, rfl, rfl⟩,
   ⟨_, _, rfl, rfl, rfl, rfl, rfl, rfl⟩,
   ⟨_, _, rfl, rfl, rfl, rfl, rfl, rfl, rfl, rfl, rfl⟩,
   ⟨rfl, _, rfl, rfl, rfl⟩,
   ⟨_, _, rfl, rfl, rfl, rfl, rfl, rfl⟩,
   ⟨_, _, rfl, rfl, rfl, rfl, rfl, rfl⟩,
   ⟨_, _, _, rfl, rfl, rfl, rfl, rfl, rfl, rfl, rfl, by simp [Value.cells, Value.oneCell'], by decide, by decide, by decide⟩,
   ⟨_, _, rfl, rfl, rfl, rfl, rfl, rfl⟩,
   ⟨_, _, rfl, rfl, rfl, rfl, rfl, rfl⟩,
   ⟨_, _, rfl, rfl, rfl, rfl, rfl, rfl⟩,
   ⟨_, _, rfl, rfl, rfl, rfl, rfl, rfl⟩,
   ⟨_, _, rfl, rfl, rfl, rfl, rfl, rfl⟩,
   ⟨_, _, rfl, rfl, rfl, rfl, rfl, rfl⟩,
   ⟨_, _, rfl, rfl, rfl, rfl, rfl, rfl⟩,
   ⟨_, _, rfl, rfl, rfl, rfl, rfl, rfl⟩,
   ⟨_, _, rfl, rfl, rfl, rfl, rfl, rfl⟩,
   ⟨_, _, rfl, rfl, rfl, rfl, rfl, rfl⟩,
   ⟨_, _, rfl, rfl, rfl, rfl, rfl, rfl⟩,
   ⟨_, _, rfl, rfl, rfl, rfl, rfl, rfl⟩,
   ⟨_, _, rfl, rfl, rfl, rfl, rfl, rfl⟩,
   ⟨_, _, rfl, rfl, rfl, rfl, rfl, rfl⟩,
   ⟨_, _, rfl, rfl, rfl, rfl, rfl, rfl⟩,
   ⟨_, _, rfl, rfl, rfl, rfl, rfl, rfl⟩,
   ⟨_, _, rfl, rfl, rfl, rfl, rfl, rfl⟩,
   ⟨_, _, _, rfl, rfl, rfl, rfl, rfl, rfl, rfl, rfl, by simp [Value.cells, Value.oneCell'], by decide, by decide, by decide⟩,
   ⟨_, _, rfl, rfl, rfl, rfl, rfl, rfl⟩,
   ⟨_, _, rfl, rfl, rfl, rfl, rfl, rfl⟩,
   ⟨_, _, _, rfl, rfl, rfl, rfl, rfl, rfl, rfl, rfl, by simp [Value.cells, Value.oneCell'], by decide, by decide, by decide⟩,
   ⟨_, _, _, rfl, rfl, rfl, rfl, rfl, rfl, rfl, rfl, by simp [Value.cells, Value.oneCell'], by decide, by decide, by decide⟩,
   ⟨_, _, rfl, rfl, rfl, rfl, rfl, rfl, rfl, rfl, rfl⟩,
   ⟨_, _, rfl, rfl, rfl, rfl, rfl, rfl, rfl, rfl, rfl⟩,
   ⟨_, _, rfl, rfl, rfl, rfl, rfl, rfl⟩,
   ⟨rfl, _, rfl, rfl, rfl⟩,
   ⟨_, _, rfl, rfl, rfl, rfl, rfl, rfl⟩,
   ⟨_, _, rfl, rfl, rfl, rfl, rfl, rfl⟩,
   ⟨_, _, rfl, rfl, rfl, rfl, rfl, rfl⟩,
   ⟨_, _, rfl, rfl, rfl, rfl, rfl, rfl⟩,
   ⟨_, _, rfl, rfl, rfl, rfl, rfl, rfl⟩,
   ⟨_, _, rfl, rfl, rfl, rfl, rfl, rfl⟩,
   ⟨_, _, rfl, rfl, rfl, rfl, rfl, rfl⟩,
   ⟨_, _, rfl, rfl, rfl, rfl, rfl, rfl⟩,
   ⟨_, _, rfl, rfl, rfl, rfl, rfl, rfl⟩,
   ⟨_, _, rfl, rfl, rfl, rfl, rfl, rfl⟩,
   ⟨_, _, rfl, rfl, rfl, rfl, rfl, rfl⟩,
   ⟨_, _, rfl, rfl, rfl, rfl, rfl, rfl⟩,
   ⟨_, _, rfl, rfl, rfl, rfl, rfl, rfl⟩,
   ⟨_, _, rfl, rfl, rfl, rfl, rfl, rfl⟩,
   ⟨_, _, rfl, rfl, rfl, rfl, rfl, rfl⟩,
   ⟨_, _, rfl, rfl, rfl, rfl, rfl, rfl⟩,
   ⟨_, _, rfl, rfl, rfl, rfl, rfl, rfl⟩,
   ⟨_, _, rfl, rfl, rfl, rfl, rfl, rfl⟩,
   ⟨_, _, rfl, rfl, rfl, rfl, rfl, rfl⟩,
   ⟨_, _, rfl, rfl, rfl, rfl, rfl, rfl⟩,
   ⟨_, _, rfl, rfl, rfl, rfl, rfl, rfl⟩,
   ⟨_, _, rfl, rfl, rfl, rfl, rfl, rfl⟩,
   ⟨_, _, _, rfl, rfl, rfl, rfl, rfl, rfl, rfl, rfl, by simp [Value.cells, Value.oneCell'], by decide, by decide, by decide⟩,
   ⟨_, _, rfl, rfl, rfl, rfl, rfl, rfl⟩,
   ⟨_, _, rfl, rfl, rfl, rfl, rfl, rfl⟩,
   ⟨_, _, rfl, rfl, rfl, rfl, rfl, rfl⟩,
   ⟨_, _, rfl, rfl, rfl, rfl, rfl, rfl⟩,
   ⟨_, _, rfl, rfl, rfl, rfl, rfl, rfl⟩,
   ⟨_, _, rfl, rfl, rfl, rfl, rfl, rfl⟩,
   ⟨_, _, rfl, rfl, rfl, rfl, rfl, rfl⟩,
   ⟨_, _, rfl, rfl, rfl, rfl, rfl, rfl⟩,
   ⟨_, _, rfl, rfl, rfl, rfl, rfl, rfl⟩,
   ⟨_, _, rfl, rfl, rfl, rfl, rfl, rfl⟩,
   ⟨_, _, rfl, rfl, rfl, rfl, rfl, rfl⟩,
   ⟨_, _, rfl, rfl, rfl, rfl, rfl, rfl⟩,
   ⟨_, _, rfl, rfl, rfl, rfl, rfl, rfl⟩,
   ⟨_, _, rfl, rfl, rfl, rfl, rfl, rfl⟩,
   ⟨_, _, rfl, rfl, rfl, rfl, rfl, rfl⟩,
   ⟨_, _, rfl, rfl, rfl, rfl, rfl, rfl⟩,
   ⟨_, _, rfl, rfl, rfl, rfl, rfl, rfl⟩,
   ⟨_, _, rfl, rfl, rfl, rfl, rfl, rfl⟩,
   ⟨_, _, rfl, rfl, rfl, rfl, rfl, rfl⟩,
   ⟨_, _, rfl, rfl, rfl, rfl, rfl, rfl⟩, trivial⟩
theorem mixed:Tryz.prog.follows .mixedOrders=true:=by kernel_rfl
end Go.Proofs.YtdmbahepaglcbaaGreatDoor
