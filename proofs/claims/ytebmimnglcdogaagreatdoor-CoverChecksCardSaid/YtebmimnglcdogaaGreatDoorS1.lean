/- The seat: functions by name, the types that are used. No condition. -/
import Derived.Test.YtebmimnglcdogaaGreatDoorFpN
import Derived.Test.YtebmimnglcdogaaGreatDoorProg
import Derived.KernelRfl
set_option linter.unusedSimpArgs false
set_option linter.unusedVariables false
namespace Go.Proofs.YtebmimnglcdogaaGreatDoor
open Go Fp
abbrev zFT:Nat:=5
abbrev zQX:Nat:=6
abbrev zC4:Nat:=7
abbrev zH7:Nat:=8
abbrev zES:Nat:=9
abbrev zFZ:Nat:=12
abbrev jX:Nat:=13
abbrev zEB:Nat:=14
abbrev zRZ:Nat:=17
abbrev zNQ:Nat:=18
abbrev zPK:Nat:=19
abbrev zFY:Nat:=20
abbrev zX:Nat:=21
abbrev zG7:Nat:=23
abbrev zE1:Nat:=24
abbrev zAA:Nat:=25
abbrev zF9:Nat:=26
abbrev zCA:Nat:=28
abbrev zF2:Nat:=29
abbrev qY:Nat:=30
abbrev wY:Nat:=31
abbrev zN0:Nat:=32
abbrev qZ:Nat:=33
abbrev zQ7:Nat:=34
abbrev xQ:Nat:=35
abbrev zAC:Nat:=36
abbrev zF8:Nat:=37
abbrev zC0:Nat:=38
abbrev zK8:Nat:=39
abbrev zLF:Nat:=40
abbrev zF6:Nat:=41
abbrev zLG:Nat:=42
abbrev zDI:Nat:=43
abbrev zLA:Nat:=47
abbrev zQL:Nat:=50
abbrev zIO:Nat:=51
abbrev wE:Nat:=52
abbrev zMS:Nat:=53
abbrev zC2:Nat:=54
abbrev zK5:Nat:=55
abbrev zO4:Nat:=56
abbrev yN:Nat:=57
abbrev zEM:Nat:=58
abbrev zBH:Nat:=59
abbrev zMX:Nat:=61
abbrev zEO:Nat:=62
abbrev zBC:Nat:=63
abbrev zD6:Nat:=64
abbrev zH8:Nat:=70
abbrev zBQ:Nat:=72
abbrev jS:Nat:=73
abbrev jV:Nat:=74
abbrev zKX:Nat:=75
abbrev zAF:Nat:=76
abbrev zCT:Nat:=77
abbrev zBK:Nat:=78
abbrev zCU:Nat:=79
abbrev zAH:Nat:=83
abbrev zK6:Nat:=84
abbrev zQ8:Nat:=85
abbrev zEC:Nat:=91
abbrev zKV:Nat:=92
abbrev zAE:Nat:=95
abbrev jZ:Nat:=96
abbrev jB:Nat:=98
abbrev zCO:Nat:=110
abbrev jE:Nat:=111
abbrev zIQ:Nat:=112
abbrev zPL:Nat:=113
abbrev zQS:Nat:=114
abbrev wZ:Nat:=118
abbrev zH2:Nat:=122
abbrev zH5:Nat:=131
abbrev zFC:Nat:=142
abbrev zKY:Nat:=146
abbrev zK3:Nat:=149
abbrev xP:Nat:=156
def tt:TT:=[(1,.sc (.lit .nilFunc)),(2,.sc (.lit (.int .i64 0))),(3,.sc (.lit (.int .i64 0))),(4,.sc (.lit (.bool false))),(5,.sc (.lit (.int .u8 0))),(9,.sc (.lit (.string .empty))),(21,.sc (.lit (.int .i32 0))),(22,.sl 3 1),(23,.sl 39 10),(25,.sc (.lit .nilFunc)),(26,.sc (.lit (.pointer none))),(27,.sc (.lit .nilFunc)),(28,.sl 75 5),(29,.sl 274 6),(30,.sl 277 6),(31,.sl 284 33),(32,.st 4 [(0,1),(1,1),(2,1),(3,1)] [28,29,30,31] [.nil,.nil,.nil,.nil]),(33,.st 4 [(0,1),(1,1),(2,1),(3,1)] [28,29,30,31] [.nil,.nil,.nil,.nil]),(34,.sc (.lit .nilFunc)),(35,.sl 37 4),(36,.st 4 [(0,1),(1,1),(2,1),(3,1)] [3,3,9,35] [.lit (.int .i64 0),.lit (.int .i64 0),.lit (.string .empty),.nil]),(37,.st 4 [(0,1),(1,1),(2,1),(3,1)] [3,3,9,35] [.lit (.int .i64 0),.lit (.int .i64 0),.lit (.string .empty),.nil]),(38,.st 10 [(0,1),(1,1),(2,1),(3,1),(4,1),(5,4),(9,1)] [3,3,3,9,23,37,35] [.lit (.int .i64 0),.lit (.int .i64 0),.lit (.int .i64 0),.lit (.string .empty),.nil,.lit (.int .i64 0),.lit (.int .i64 0),.lit (.string .empty),.nil,.nil]),(39,.st 10 [(0,1),(1,1),(2,1),(3,1),(4,1),(5,4),(9,1)] [3,3,3,9,23,37,35] [.lit (.int .i64 0),.lit (.int .i64 0),.lit (.int .i64 0),.lit (.string .empty),.nil,.lit (.int .i64 0),.lit (.int .i64 0),.lit (.string .empty),.nil,.nil]),(41,.sc (.lit .nilFunc)),(42,.sc (.lit .nilFunc)),(43,.sl 184 5),(44,.sc (.lit (.int .i64 0))),(45,.st 2 [(0,1),(1,1)] [44,3] [.lit (.int .i64 0),.lit (.int .i64 0)]),(46,.st 2 [(0,1),(1,1)] [44,3] [.lit (.int .i64 0),.lit (.int .i64 0)]),(48,.sc (.lit .nilFunc)),(49,.sc (.lit (.pointer none))),(50,.sc (.lit .nilFunc)),(51,.sc (.lit .nilFunc)),(52,.sc (.lit .nilFunc)),(53,.sl 57 10),(54,.sl 103 15),(55,.sl 113 14),(56,.st 10 [(0,1),(1,1),(2,1),(3,4),(7,1),(8,1),(9,1)] [3,3,9,37,53,54,55] [.lit (.int .i64 0),.lit (.int .i64 0),.lit (.string .empty),.lit (.int .i64 0),.lit (.int .i64 0),.lit (.string .empty),.nil,.nil,.nil,.nil]),(57,.st 10 [(0,1),(1,1),(2,1),(3,4),(7,1),(8,1),(9,1)] [3,3,9,37,53,54,55] [.lit (.int .i64 0),.lit (.int .i64 0),.lit (.string .empty),.lit (.int .i64 0),.lit (.int .i64 0),.lit (.string .empty),.nil,.nil,.nil,.nil]),(58,.sc (.lit .nilFunc)),(59,.sc (.lit .nilFunc)),(61,.sc (.lit .nilFunc)),(62,.sl 128 8),(63,.sc (.lit .nilFunc)),(64,.sc (.lit .nilFunc)),(65,.sc (.lit .nilFunc)),(66,.sc (.lit .nilFunc)),(67,.sc (.lit .nilFunc)),(69,.sc (.lit .nilFunc)),(70,.sc (.lit .nilFunc)),(71,.sl 9 1),(72,.sl 140 1),(73,.sl 81 3),(74,.st 5 [(0,1),(1,1),(2,1),(3,1),(4,1)] [9,3,71,72,73] [.lit (.string .empty),.lit (.int .i64 0),.nil,.nil,.nil]),(75,.st 5 [(0,1),(1,1),(2,1),(3,1),(4,1)] [9,3,71,72,73] [.lit (.string .empty),.lit (.int .i64 0),.nil,.nil,.nil]),(76,.sc (.lit .nilFunc)),(77,.mp 9 83),(78,.st 2 [(0,1),(1,1)] [28,77] [.nil,.lit (.map none)]),(79,.st 2 [(0,1),(1,1)] [28,77] [.nil,.lit (.map none)]),(80,.st 3 [(0,1),(1,1),(2,1)] [9,3,35] [.lit (.string .empty),.lit (.int .i64 0),.nil]),(81,.st 3 [(0,1),(1,1),(2,1)] [9,3,35] [.lit (.string .empty),.lit (.int .i64 0),.nil]),(82,.st 2 [(0,1),(1,1)] [3,3] [.lit (.int .i64 0),.lit (.int .i64 0)]),(83,.st 2 [(0,1),(1,1)] [3,3] [.lit (.int .i64 0),.lit (.int .i64 0)]),(85,.sc (.lit .nilFunc)),(86,.sl 97 12),(87,.sc (.lit .nilFunc)),(88,.sc (.lit (.pointer none))),(89,.st 3 [(0,1),(1,1),(2,1)] [26,49,43] [.lit (.pointer none),.lit (.pointer none),.nil]),(90,.st 3 [(0,1),(1,1),(2,1)] [26,49,43] [.lit (.pointer none),.lit (.pointer none),.nil]),(92,.sc (.lit .nilFunc)),(93,.mp 3 37),(94,.st 2 [(0,1),(1,1)] [3,93] [.lit (.int .i64 0),.lit (.map none)]),(95,.st 2 [(0,1),(1,1)] [3,93] [.lit (.int .i64 0),.lit (.map none)]),(96,.st 12 [(0,1),(1,1),(2,10)] [23,54,57] [.nil,.nil,.lit (.int .i64 0),.lit (.int .i64 0),.lit (.string .empty),.lit (.int .i64 0),.lit (.int .i64 0),.lit (.string .empty),.nil,.nil,.nil,.nil]),(97,.st 12 [(0,1),(1,1),(2,10)] [23,54,57] [.nil,.nil,.lit (.int .i64 0),.lit (.int .i64 0),.lit (.string .empty),.lit (.int .i64 0),.lit (.int .i64 0),.lit (.string .empty),.nil,.nil,.nil,.nil]),(98,.sc (.lit .nilFunc)),(99,.sc (.lit .nilFunc)),(100,.sc (.lit .nilFunc)),(101,.sc (.lit .nilFunc)),(102,.st 15 [(0,1),(1,4),(5,10)] [9,37,57] [.lit (.string .empty),.lit (.int .i64 0),.lit (.int .i64 0),.lit (.string .empty),.nil,.lit (.int .i64 0),.lit (.int .i64 0),.lit (.string .empty),.lit (.int .i64 0),.lit (.int .i64 0),.lit (.string .empty),.nil,.nil,.nil,.nil]),(103,.st 15 [(0,1),(1,4),(5,10)] [9,37,57] [.lit (.string .empty),.lit (.int .i64 0),.lit (.int .i64 0),.lit (.string .empty),.nil,.lit (.int .i64 0),.lit (.int .i64 0),.lit (.string .empty),.lit (.int .i64 0),.lit (.int .i64 0),.lit (.string .empty),.nil,.nil,.nil,.nil]),(104,.sc (.lit .nilFunc)),(105,.sc (.lit .nilFunc)),(106,.sc (.lit .nilFunc)),(107,.sc (.lit .nilFunc)),(108,.sc (.lit .nilFunc)),(109,.sc (.lit .nilFunc)),(110,.sc (.lit .nilFunc)),(111,.sc (.lit .nilFunc)),(112,.st 14 [(0,1),(1,1),(2,1),(3,1),(4,10)] [3,3,9,71,57] [.lit (.int .i64 0),.lit (.int .i64 0),.lit (.string .empty),.nil,.lit (.int .i64 0),.lit (.int .i64 0),.lit (.string .empty),.lit (.int .i64 0),.lit (.int .i64 0),.lit (.string .empty),.nil,.nil,.nil,.nil]),(113,.st 14 [(0,1),(1,1),(2,1),(3,1),(4,10)] [3,3,9,71,57] [.lit (.int .i64 0),.lit (.int .i64 0),.lit (.string .empty),.nil,.lit (.int .i64 0),.lit (.int .i64 0),.lit (.string .empty),.lit (.int .i64 0),.lit (.int .i64 0),.lit (.string .empty),.nil,.nil,.nil,.nil]),(114,.sc (.lit .nilFunc)),(115,.sc (.lit .nilFunc)),(116,.sl 211 5),(117,.sc (.lit .nilFunc)),(118,.st 5 [(0,1),(1,1),(2,1),(3,1),(4,1)] [62,116,71,35,3] [.nil,.nil,.nil,.nil,.lit (.int .i64 0)]),(119,.st 5 [(0,1),(1,1),(2,1),(3,1),(4,1)] [62,116,71,35,3] [.nil,.nil,.nil,.nil,.lit (.int .i64 0)]),(120,.sc (.lit .nilFunc)),(121,.sc (.lit .nilFunc)),(122,.sc (.lit .nilFunc)),(123,.sc (.lit .nilFunc)),(125,.sc (.lit .nilFunc)),(126,.sc (.lit .nilFunc)),(127,.st 8 [(0,1),(1,1),(2,1),(3,1),(4,4)] [9,3,3,3,37] [.lit (.string .empty),.lit (.int .i64 0),.lit (.int .i64 0),.lit (.int .i64 0),.lit (.int .i64 0),.lit (.int .i64 0),.lit (.string .empty),.nil]),(128,.st 8 [(0,1),(1,1),(2,1),(3,1),(4,4)] [9,3,3,3,37] [.lit (.string .empty),.lit (.int .i64 0),.lit (.int .i64 0),.lit (.int .i64 0),.lit (.int .i64 0),.lit (.int .i64 0),.lit (.string .empty),.nil]),(129,.sc (.lit .nilFunc)),(130,.sc (.lit .nilFunc)),(131,.sc (.lit .nilFunc)),(132,.sc (.lit .nilFunc)),(133,.sc (.lit .nilFunc)),(134,.sl 22 1),(136,.sc (.lit .nilFunc)),(137,.sl 28 1),(138,.sc (.lit .nilFunc)),(139,.st 1 [(0,1)] [72] [.nil]),(140,.st 1 [(0,1)] [72] [.nil]),(141,.sc (.lit .nilFunc)),(142,.sc (.lit .nilFunc)),(143,.sc (.lit .nilFunc)),(144,.sc (.lit .nilFunc)),(145,.sc (.lit .nilFunc)),(146,.sc (.lit .nilFunc)),(148,.sc (.lit (.pointer none))),(149,.sc (.lit .nilFunc)),(151,.sc (.lit .nilFunc)),(152,.sl 71 1),(153,.sc (.lit .nilFunc)),(154,.sc (.lit .nilFunc)),(155,.sc (.lit .nilFunc)),(156,.sc (.lit .nilFunc)),(157,.sc (.lit .nilFunc)),(158,.sc (.lit .nilFunc)),(159,.st 0 [] [] []),(160,.st 0 [] [] []),(162,.sc (.lit .nilFunc)),(163,.st 2 [(0,1),(1,1)] [3,162] [.lit (.int .i64 0),.lit .nilFunc]),(165,.mp 3 163),(166,.sc (.lit .nilFunc)),(167,.sc (.lit .nilFunc)),(168,.sc (.lit .nilFunc)),(169,.sc (.lit .nilFunc)),(170,.sc (.lit .nilFunc)),(171,.sc (.lit .nilFunc)),(172,.sc (.lit .nilFunc)),(173,.sc (.lit .nilFunc)),(174,.sc (.lit .nilFunc)),(175,.sl 181 2),(176,.sc (.lit .nilFunc)),(177,.sc (.lit (.pointer none))),(178,.sl 195 1),(179,.sl 177 1),(180,.st 2 [(0,1),(1,1)] [178,179] [.nil,.nil]),(181,.st 2 [(0,1),(1,1)] [178,179] [.nil,.nil]),(182,.sl 5 1),(183,.st 5 [(0,1),(1,4)] [9,37] [.lit (.string .empty),.lit (.int .i64 0),.lit (.int .i64 0),.lit (.string .empty),.nil]),(184,.st 5 [(0,1),(1,4)] [9,37] [.lit (.string .empty),.lit (.int .i64 0),.lit (.int .i64 0),.lit (.string .empty),.nil]),(185,.sc (.lit .nilFunc)),(186,.sc (.lit .nilFunc)),(188,.sc (.lit .nilFunc)),(190,.sc (.lit .nilFunc)),(191,.sl 23 1),(192,.sc (.lit .nilFunc)),(193,.sc (.lit .nilFunc)),(194,.sc (.lit .nilFunc)),(195,.sc (.lit (.pointer none))),(196,.sc (.lit (.pointer none))),(197,.sc (.lit (.pointer none))),(198,.sc (.lit .nilFunc)),(200,.sc (.lit (.int .u64 0))),(201,.sc (.lit .nilFunc)),(202,.sc (.lit .nilFunc)),(204,.sc (.lit .nilFunc)),(205,.sc (.lit (.int .u64 0))),(207,.sc (.lit .nilFunc)),(208,.sc (.lit .nilFunc)),(210,.sc (.lit .nilFunc)),(211,.st 5 [(0,1),(1,4)] [9,37] [.lit (.string .empty),.lit (.int .i64 0),.lit (.int .i64 0),.lit (.string .empty),.nil]),(212,.sc (.lit .nilFunc)),(214,.sc (.lit .nilFunc)),(215,.sc (.lit .nilFunc)),(216,.sc (.lit .nilFunc)),(217,.sc (.lit .nilFunc)),(218,.sc (.lit .nilFunc)),(219,.sc (.lit .nilFunc)),(220,.sc (.lit .nilFunc)),(221,.sc (.lit .nilFunc)),(222,.sc (.lit .nilFunc)),(224,.sc (.lit (.int .u32 0))),(226,.sc (.lit .nilFunc)),(227,.sc (.lit .nilFunc)),(229,.sc (.lit .nilFunc)),(231,.sc (.lit .nilFunc)),(232,.sc (.lit .nilFunc)),(233,.sc (.lit .nilFunc)),(234,.sc (.lit .nilFunc)),(235,.sc (.lit .nilFunc)),(236,.mp 9 159),(239,.sc (.lit .nilFunc)),(241,.sc (.lit .nilFunc)),(243,.sc (.lit .nilFunc)),(244,.sc (.lit .nilFunc)),(245,.sc (.lit .nilFunc)),(246,.sl 116 1),(247,.sc (.lit .nilFunc)),(248,.sc (.lit .nilFunc)),(249,.sc (.lit .nilFunc)),(250,.sc (.lit .nilFunc)),(251,.mp 3 3),(252,.sc (.lit .nilFunc)),(255,.sc (.lit .nilFunc)),(257,.sc (.lit .nilFunc)),(263,.sc (.lit .nilFunc)),(267,.sc (.lit (.pointer none))),(272,.sl 288 9),(273,.st 6 [(0,1),(1,1),(2,1),(3,1),(4,1),(5,1)] [9,3,9,140,71,272] [.lit (.string .empty),.lit (.int .i64 0),.lit (.string .empty),.nil,.nil,.nil]),(274,.st 6 [(0,1),(1,1),(2,1),(3,1),(4,1),(5,1)] [9,3,9,140,71,272] [.lit (.string .empty),.lit (.int .i64 0),.lit (.string .empty),.nil,.nil,.nil]),(275,.sl 290 5),(276,.st 6 [(0,1),(1,1),(2,1),(3,1),(4,1),(5,1)] [9,3,9,71,275,31] [.lit (.string .empty),.lit (.int .i64 0),.lit (.string .empty),.nil,.nil,.nil]),(277,.st 6 [(0,1),(1,1),(2,1),(3,1),(4,1),(5,1)] [9,3,9,71,275,31] [.lit (.string .empty),.lit (.int .i64 0),.lit (.string .empty),.nil,.nil,.nil]),(278,.st 7 [(0,1),(1,1),(2,1),(3,4)] [71,72,275,37] [.nil,.nil,.nil,.lit (.int .i64 0),.lit (.int .i64 0),.lit (.string .empty),.nil]),(279,.st 7 [(0,1),(1,1),(2,1),(3,4)] [71,72,275,37] [.nil,.nil,.nil,.lit (.int .i64 0),.lit (.int .i64 0),.lit (.string .empty),.nil]),(280,.sl 282 15),(281,.st 15 [(0,1),(1,1),(2,1),(3,1),(4,1),(5,1),(6,1),(7,7),(14,1)] [3,3,3,9,280,23,31,279,35] [.lit (.int .i64 0),.lit (.int .i64 0),.lit (.int .i64 0),.lit (.string .empty),.nil,.nil,.nil,.nil,.nil,.nil,.lit (.int .i64 0),.lit (.int .i64 0),.lit (.string .empty),.nil,.nil]),(282,.st 15 [(0,1),(1,1),(2,1),(3,1),(4,1),(5,1),(6,1),(7,7),(14,1)] [3,3,3,9,280,23,31,279,35] [.lit (.int .i64 0),.lit (.int .i64 0),.lit (.int .i64 0),.lit (.string .empty),.nil,.nil,.nil,.nil,.nil,.nil,.lit (.int .i64 0),.lit (.int .i64 0),.lit (.string .empty),.nil,.nil]),(283,.st 33 [(0,1),(1,1),(2,1),(3,7),(10,15),(25,7),(32,1)] [9,3,4,279,282,279,3] [.lit (.string .empty),.lit (.int .i64 0),.lit (.bool false),.nil,.nil,.nil,.lit (.int .i64 0),.lit (.int .i64 0),.lit (.string .empty),.nil,.lit (.int .i64 0),.lit (.int .i64 0),.lit (.int .i64 0),.lit (.string .empty),.nil,.nil,.nil,.nil,.nil,.nil,.lit (.int .i64 0),.lit (.int .i64 0),.lit (.string .empty),.nil,.nil,.nil,.nil,.nil,.lit (.int .i64 0),.lit (.int .i64 0),.lit (.string .empty),.nil,.lit (.int .i64 0)]),(284,.st 33 [(0,1),(1,1),(2,1),(3,7),(10,15),(25,7),(32,1)] [9,3,4,279,282,279,3] [.lit (.string .empty),.lit (.int .i64 0),.lit (.bool false),.nil,.nil,.nil,.lit (.int .i64 0),.lit (.int .i64 0),.lit (.string .empty),.nil,.lit (.int .i64 0),.lit (.int .i64 0),.lit (.int .i64 0),.lit (.string .empty),.nil,.nil,.nil,.nil,.nil,.nil,.lit (.int .i64 0),.lit (.int .i64 0),.lit (.string .empty),.nil,.nil,.nil,.nil,.nil,.lit (.int .i64 0),.lit (.int .i64 0),.lit (.string .empty),.nil,.lit (.int .i64 0)]),(285,.sc (.lit .nilFunc)),(287,.st 9 [(0,1),(1,1),(2,7)] [9,3,279] [.lit (.string .empty),.lit (.int .i64 0),.nil,.nil,.nil,.lit (.int .i64 0),.lit (.int .i64 0),.lit (.string .empty),.nil]),(288,.st 9 [(0,1),(1,1),(2,7)] [9,3,279] [.lit (.string .empty),.lit (.int .i64 0),.nil,.nil,.nil,.lit (.int .i64 0),.lit (.int .i64 0),.lit (.string .empty),.nil]),(289,.st 5 [(0,1),(1,4)] [9,37] [.lit (.string .empty),.lit (.int .i64 0),.lit (.int .i64 0),.lit (.string .empty),.nil]),(290,.st 5 [(0,1),(1,4)] [9,37] [.lit (.string .empty),.lit (.int .i64 0),.lit (.int .i64 0),.lit (.string .empty),.nil])]
set_option maxRecDepth 100000 in
theorem ttok : zN Tryz.prog tt :=
  ⟨⟨_, _, rfl, rfl, rfl, rfl, rfl, rfl⟩,
   ⟨_, _, rfl, rfl, rfl, rfl, rfl, rfl⟩,
   ⟨_, _, rfl, rfl, rfl, rfl, rfl, rfl⟩,
   ⟨_, _, rfl, rfl, rfl, rfl, rfl, rfl⟩,
   ⟨_, _, rfl, rfl, rfl, rfl, rfl, rfl⟩,
   ⟨_, _, rfl, rfl, rfl, rfl, rfl, rfl⟩,
   ⟨_, _, rfl, rfl, rfl, rfl, rfl, rfl⟩,
   ⟨_, _, _, rfl, rfl, rfl, rfl, rfl, rfl, rfl, rfl, by simp [Value.cells, Value.oneCell'], by decide, by decide, by decide⟩,
   ⟨_, _, _, rfl, rfl, rfl, rfl, rfl, rfl, rfl, rfl, by simp [Value.cells, Value.oneCell'], by decide, by decide, by decide⟩,
   ⟨_, _, rfl, rfl, rfl, rfl, rfl, rfl⟩,
   ⟨_, _, rfl, rfl, rfl, rfl, rfl, rfl⟩,
   ⟨_, _, rfl, rfl, rfl, rfl, rfl, rfl⟩,
   ⟨_, _, _, rfl, rfl, rfl, rfl, rfl, rfl, rfl, rfl, by simp [Value.cells, Value.oneCell'], by decide, by decide, by decide⟩,
   ⟨_, _, _, rfl, rfl, rfl, rfl, rfl, rfl, rfl, rfl, by simp [Value.cells, Value.oneCell'], by decide, by decide, by decide⟩,
   ⟨_, _, _, rfl, rfl, rfl, rfl, rfl, rfl, rfl, rfl, by simp [Value.cells, Value.oneCell'], by decide, by decide, by decide⟩,
   ⟨_, _, _, rfl, rfl, rfl, rfl, rfl, rfl, rfl, rfl, by simp [Value.cells, Value.oneCell'], by decide, by decide, by decide⟩,
   ⟨_, _, rfl, rfl, rfl, rfl, rfl, rfl, rfl, rfl, rfl⟩,
   ⟨_, _, rfl, rfl, rfl, rfl, rfl, rfl, rfl, rfl, rfl⟩,
   ⟨_, _, rfl, rfl, rfl, rfl, rfl, rfl⟩,
   ⟨_, _, _, rfl, rfl, rfl, rfl, rfl, rfl, rfl, rfl, by simp [Value.cells, Value.oneCell'], by decide, by decide, by decide⟩,
   ⟨_, _, rfl, rfl, rfl, rfl, rfl, rfl, rfl, rfl, rfl⟩,
   ⟨_, _, rfl, rfl, rfl, rfl, rfl, rfl, rfl, rfl, rfl⟩,
   ⟨_, _, rfl, rfl, rfl, rfl, rfl, rfl, rfl, rfl, rfl⟩,
   ⟨_, _, rfl, rfl, rfl, rfl, rfl, rfl, rfl, rfl, rfl⟩,
   ⟨_, _, rfl, rfl, rfl, rfl, rfl, rfl⟩,
   ⟨_, _, rfl, rfl, rfl, rfl, rfl, rfl⟩,
   ⟨_, _, _, rfl, rfl, rfl, rfl, rfl, rfl, rfl, rfl, by simp [Value.cells, Value.oneCell'], by decide, by decide, by decide⟩,
   ⟨_, _, rfl, rfl, rfl, rfl, rfl, rfl⟩,
   ⟨_, _, rfl, rfl, rfl, rfl, rfl, rfl, rfl, rfl, rfl⟩,
   ⟨_, _, rfl, rfl, rfl, rfl, rfl, rfl, rfl, rfl, rfl⟩,
   ⟨_, _, rfl, rfl, rfl, rfl, rfl, rfl⟩,
   ⟨_, _, rfl, rfl, rfl, rfl, rfl, rfl⟩,
   ⟨_, _, rfl, rfl, rfl, rfl, rfl, rfl⟩,
   ⟨_, _, rfl, rfl, rfl, rfl, rfl, rfl⟩,
   ⟨_, _, rfl, rfl, rfl, rfl, rfl, rfl⟩,
   ⟨_, _, _, rfl, rfl, rfl, rfl, rfl, rfl, rfl, rfl, by simp [Value.cells, Value.oneCell'], by decide, by decide, by decide⟩,
   ⟨_, _, _, rfl, rfl, rfl, rfl, rfl, rfl, rfl, rfl, by simp [Value.cells, Value.oneCell'], by decide, by decide, by decide⟩,
   ⟨_, _, _, rfl, rfl, rfl, rfl, rfl, rfl, rfl, rfl, by simp [Value.cells, Value.oneCell'], by decide, by decide, by decide⟩,
   ⟨_, _, rfl, rfl, rfl, rfl, rfl, rfl, rfl, rfl, rfl⟩,
   ⟨_, _, rfl, rfl, rfl, rfl, rfl, rfl, rfl, rfl, rfl⟩,
   ⟨_, _, rfl, rfl, rfl, rfl, rfl, rfl⟩,
   ⟨_, _, rfl, rfl, rfl, rfl, rfl, rfl⟩,
   ⟨_, _, rfl, rfl, rfl, rfl, rfl, rfl⟩,
   ⟨_, _, _, rfl, rfl, rfl, rfl, rfl, rfl, rfl, rfl, by simp [Value.cells, Value.oneCell'], by decide, by decide, by decide⟩,
   ⟨_, _, rfl, rfl, rfl, rfl, rfl, rfl⟩,
   ⟨_, _, rfl, rfl, rfl, rfl, rfl, rfl⟩,
   ⟨_, _, rfl, rfl, rfl, rfl, rfl, rfl⟩,
   ⟨_, _, rfl, rfl, rfl, rfl, rfl, rfl⟩,
   ⟨_, _, rfl, rfl, rfl, rfl, rfl, rfl⟩,
   ⟨_, _, rfl, rfl, rfl, rfl, rfl, rfl⟩,
   ⟨_, _, rfl, rfl, rfl, rfl, rfl, rfl⟩,
   ⟨_, _, _, rfl, rfl, rfl, rfl, rfl, rfl, rfl, rfl, by simp [Value.cells, Value.oneCell'], by decide, by decide, by decide⟩,
   ⟨_, _, _, rfl, rfl, rfl, rfl, rfl, rfl, rfl, rfl, by simp [Value.cells, Value.oneCell'], by decide, by decide, by decide⟩,
   ⟨_, _, _, rfl, rfl, rfl, rfl, rfl, rfl, rfl, rfl, by simp [Value.cells, Value.oneCell'], by decide, by decide, by decide⟩,
   ⟨_, _, rfl, rfl, rfl, rfl, rfl, rfl, rfl, rfl, rfl⟩,
   ⟨_, _, rfl, rfl, rfl, rfl, rfl, rfl, rfl, rfl, rfl⟩,
   ⟨_, _, rfl, rfl, rfl, rfl, rfl, rfl⟩,
   ⟨rfl, _, rfl, rfl, rfl⟩,
   ⟨_, _, rfl, rfl, rfl, rfl, rfl, rfl, rfl, rfl, rfl⟩,
   ⟨_, _, rfl, rfl, rfl, rfl, rfl, rfl, rfl, rfl, rfl⟩,
   ⟨_, _, rfl, rfl, rfl, rfl, rfl, rfl, rfl, rfl, rfl⟩,
   ⟨_, _, rfl, rfl, rfl, rfl, rfl, rfl, rfl, rfl, rfl⟩,
   ⟨_, _, rfl, rfl, rfl, rfl, rfl, rfl, rfl, rfl, rfl⟩,
   ⟨_, _, rfl, rfl, rfl, rfl, rfl, rfl, rfl, rfl, rfl⟩,
   ⟨_, _, rfl, rfl, rfl, rfl, rfl, rfl⟩,
   ⟨_, _, _, rfl, rfl, rfl, rfl, rfl, rfl, rfl, rfl, by simp [Value.cells, Value.oneCell'], by decide, by decide, by decide⟩,
   ⟨_, _, rfl, rfl, rfl, rfl, rfl, rfl⟩,
   ⟨_, _, rfl, rfl, rfl, rfl, rfl, rfl⟩,
   ⟨_, _, rfl, rfl, rfl, rfl, rfl, rfl, rfl, rfl, rfl⟩,
   ⟨_, _, rfl, rfl, rfl, rfl, rfl, rfl, rfl, rfl, rfl⟩,
   ⟨_, _, rfl, rfl, rfl, rfl, rfl, rfl⟩,
   ⟨rfl, _, rfl, rfl, rfl⟩,
   ⟨_, _, rfl, rfl, rfl, rfl, rfl, rfl, rfl, rfl, rfl⟩,
   ⟨_, _, rfl, rfl, rfl, rfl, rfl, rfl, rfl, rfl, rfl⟩,
   ⟨_, _, rfl, rfl, rfl, rfl, rfl, rfl, rfl, rfl, rfl⟩,
   ⟨_, _, rfl, rfl, rfl, rfl, rfl, rfl, rfl, rfl, rfl⟩,
   ⟨_, _, rfl, rfl, rfl, rfl, rfl, rfl⟩,
   ⟨_, _, rfl, rfl, rfl, rfl, rfl, rfl⟩,
   ⟨_, _, rfl, rfl, rfl, rfl, rfl, rfl⟩,
   ⟨_, _, rfl, rfl, rfl, rfl, rfl, rfl⟩,
   ⟨_, _, rfl, rfl, rfl, rfl, rfl, rfl, rfl, rfl, rfl⟩,
   ⟨_, _, rfl, rfl, rfl, rfl, rfl, rfl, rfl, rfl, rfl⟩,
   ⟨_, _, rfl, rfl, rfl, rfl, rfl, rfl⟩,
   ⟨_, _, rfl, rfl, rfl, rfl, rfl, rfl⟩,
   ⟨_, _, rfl, rfl, rfl, rfl, rfl, rfl⟩,
   ⟨_, _, rfl, rfl, rfl, rfl, rfl, rfl⟩,
   ⟨_, _, rfl, rfl, rfl, rfl, rfl, rfl⟩,
   ⟨_, _, rfl, rfl, rfl, rfl, rfl, rfl⟩,
   ⟨_, _, rfl, rfl, rfl, rfl, rfl, rfl⟩,
   ⟨_, _, rfl, rfl, rfl, rfl, rfl, rfl⟩,
   ⟨_, _, rfl, rfl, rfl, rfl, rfl, rfl, rfl, rfl, rfl⟩,
   ⟨_, _, rfl, rfl, rfl, rfl, rfl, rfl, rfl, rfl, rfl⟩,
   ⟨_, _, rfl, rfl, rfl, rfl, rfl, rfl⟩,
   ⟨_, _, rfl, rfl, rfl, rfl, rfl, rfl⟩,
   ⟨_, _, _, rfl, rfl, rfl, rfl, rfl, rfl, rfl, rfl, by simp [Value.cells, Value.oneCell'], by decide, by decide, by decide⟩,
   ⟨_, _, rfl, rfl, rfl, rfl, rfl, rfl⟩,
   ⟨_, _, rfl, rfl, rfl, rfl, rfl, rfl, rfl, rfl, rfl⟩,
   ⟨_, _, rfl, rfl, rfl, rfl, rfl, rfl, rfl, rfl, rfl⟩,
   ⟨_, _, rfl, rfl, rfl, rfl, rfl, rfl⟩,
   ⟨_, _, rfl, rfl, rfl, rfl, rfl, rfl⟩,
   ⟨_, _, rfl, rfl, rfl, rfl, rfl, rfl⟩,
   ⟨_, _, rfl, rfl, rfl, rfl, rfl, rfl⟩,
   ⟨_, _, rfl, rfl, rfl, rfl, rfl, rfl⟩,
   ⟨_, _, rfl, rfl, rfl, rfl, rfl, rfl⟩,
   ⟨_, _, rfl, rfl, rfl, rfl, rfl, rfl, rfl, rfl, rfl⟩,
   ⟨_, _, rfl, rfl, rfl, rfl, rfl, rfl, rfl, rfl, rfl⟩,
   ⟨_, _, rfl, rfl, rfl, rfl, rfl, rfl⟩,
   ⟨_, _, rfl, rfl, rfl, rfl, rfl, rfl⟩,
   ⟨_, _, rfl, rfl, rfl, rfl, rfl, rfl⟩,
   ⟨_, _, rfl, rfl, rfl, rfl, rfl, rfl⟩,
   ⟨_, _, rfl, rfl, rfl, rfl, rfl, rfl⟩,
   ⟨_, _, _, rfl, rfl, rfl, rfl, rfl, rfl, rfl, rfl, by simp [Value.cells, Value.oneCell'], by decide, by decide, by decide⟩,
   ⟨_, _, rfl, rfl, rfl, rfl, rfl, rfl⟩,
   ⟨_, _, _, rfl, rfl, rfl, rfl, rfl, rfl, rfl, rfl, by simp [Value.cells, Value.oneCell'], by decide, by decide, by decide⟩,
   ⟨_, _, rfl, rfl, rfl, rfl, rfl, rfl⟩,
   ⟨_, _, rfl, rfl, rfl, rfl, rfl, rfl, rfl, rfl, rfl⟩,
   ⟨_, _, rfl, rfl, rfl, rfl, rfl, rfl, rfl, rfl, rfl⟩,
   ⟨_, _, rfl, rfl, rfl, rfl, rfl, rfl⟩,
   ⟨_, _, rfl, rfl, rfl, rfl, rfl, rfl⟩,
   ⟨_, _, rfl, rfl, rfl, rfl, rfl, rfl⟩,
   ⟨_, _, rfl, rfl, rfl, rfl, rfl, rfl⟩,
   ⟨_, _, rfl, rfl, rfl, rfl, rfl, rfl⟩,
   ⟨_, _, rfl, rfl, rfl, rfl, rfl, rfl⟩,
   ⟨_, _, rfl, rfl, rfl, rfl, rfl, rfl⟩,
   ⟨_, _, rfl, rfl, rfl, rfl, rfl, rfl⟩,
   ⟨_, _, rfl, rfl, rfl, rfl, rfl, rfl⟩,
   ⟨_, _, _, rfl, rfl, rfl, rfl, rfl, rfl, rfl, rfl, by simp [Value.cells, Value.oneCell'], by decide, by decide, by decide⟩,
   ⟨_, _, rfl, rfl, rfl, rfl, rfl, rfl⟩,
   ⟨_, _, rfl, rfl, rfl, rfl, rfl, rfl⟩,
   ⟨_, _, rfl, rfl, rfl, rfl, rfl, rfl⟩,
   ⟨_, _, rfl, rfl, rfl, rfl, rfl, rfl⟩,
   ⟨_, _, rfl, rfl, rfl, rfl, rfl, rfl⟩,
   ⟨_, _, rfl, rfl, rfl, rfl, rfl, rfl⟩,
   ⟨_, _, rfl, rfl, rfl, rfl, rfl, rfl, rfl, rfl, rfl⟩,
   ⟨_, _, rfl, rfl, rfl, rfl, rfl, rfl, rfl, rfl, rfl⟩,
   ⟨_, _, rfl, rfl, rfl, rfl, rfl, rfl⟩,
   ⟨_, _, rfl, rfl, rfl, rfl, rfl, rfl, rfl, rfl, rfl⟩,
   ⟨rfl, _, rfl, rfl, rfl⟩,
   ⟨_, _, rfl, rfl, rfl, rfl, rfl, rfl⟩,
   ⟨_, _, rfl, rfl, rfl, rfl, rfl, rfl⟩,
   ⟨_, _, rfl, rfl, rfl, rfl, rfl, rfl⟩,
   ⟨_, _, rfl, rfl, rfl, rfl, rfl, rfl⟩,
   ⟨_, _, rfl, rfl, rfl, rfl, rfl, rfl⟩,
   ⟨_, _, rfl, rfl, rfl, rfl, rfl, rfl⟩,
   ⟨_, _, rfl, rfl, rfl, rfl, rfl, rfl⟩,
   ⟨_, _, rfl, rfl, rfl, rfl, rfl, rfl⟩,
   ⟨_, _, rfl, rfl, rfl, rfl, rfl, rfl⟩,
   ⟨_, _, _, rfl, rfl, rfl, rfl, rfl, rfl, rfl, rfl, by simp [Value.cells, Value.oneCell'], by decide, by decide, by decide⟩,
   ⟨_, _, rfl, rfl, rfl, rfl, rfl, rfl⟩,
   ⟨_, _, rfl, rfl, rfl, rfl, rfl, rfl⟩,
   ⟨_, _, _, rfl, rfl, rfl, rfl, rfl, rfl, rfl, rfl, by simp [Value.cells, Value.oneCell'], by decide, by decide, by decide⟩,
   ⟨_, _, _, rfl, rfl, rfl, rfl, rfl, rfl, rfl, rfl, by simp [Value.cells, Value.oneCell'], by decide, by decide, by decide⟩,
   ⟨_, _, rfl, rfl, rfl, rfl, rfl, rfl, rfl, rfl, rfl⟩,
   ⟨_, _, rfl, rfl, rfl, rfl, rfl, rfl, rfl, rfl, rfl⟩,
   ⟨_, _, _, rfl, rfl, rfl, rfl, rfl, rfl, rfl, rfl, by simp [Value.cells, Value.oneCell'], by decide, by decide, by decide⟩,
   ⟨_, _, rfl, rfl, rfl, rfl, rfl, rfl, rfl, rfl, rfl⟩,
   ⟨_, _, rfl, rfl, rfl, rfl, rfl, rfl, rfl, rfl, rfl⟩,
   ⟨_, _, rfl, rfl, rfl, rfl, rfl, rfl⟩,
   ⟨_, _, rfl, rfl, rfl, rfl, rfl, rfl⟩,
   ⟨_, _, rfl, rfl, rfl, rfl, rfl, rfl⟩,
   ⟨_, _, rfl, rfl, rfl, rfl, rfl, rfl⟩,
   ⟨_, _, _, rfl, rfl, rfl, rfl, rfl, rfl, rfl, rfl, by simp [Value.cells, Value.oneCell'], by decide, by decide, by decide⟩,
   ⟨_, _, rfl, rfl, rfl, rfl, rfl, rfl⟩,
   ⟨_, _, rfl, rfl, rfl, rfl, rfl, rfl⟩,
   ⟨_, _, rfl, rfl, rfl, rfl, rfl, rfl⟩,
   ⟨_, _, rfl, rfl, rfl, rfl, rfl, rfl⟩,
   ⟨_, _, rfl, rfl, rfl, rfl, rfl, rfl⟩,
   ⟨_, _, rfl, rfl, rfl, rfl, rfl, rfl⟩,
   ⟨_, _, rfl, rfl, rfl, rfl, rfl, rfl⟩,
   ⟨_, _, rfl, rfl, rfl, rfl, rfl, rfl⟩,
   ⟨_, _, rfl, rfl, rfl, rfl, rfl, rfl⟩,
   ⟨_, _, rfl, rfl, rfl, rfl, rfl, rfl⟩,
   ⟨_, _, rfl, rfl, rfl, rfl, rfl, rfl⟩,
   ⟨_, _, rfl, rfl, rfl, rfl, rfl, rfl⟩,
   ⟨_, _, rfl, rfl, rfl, rfl, rfl, rfl⟩,
   ⟨_, _, rfl, rfl, rfl, rfl, rfl, rfl⟩,
   ⟨_, _, rfl, rfl, rfl, rfl, rfl, rfl⟩,
   ⟨_, _, rfl, rfl, rfl, rfl, rfl, rfl, rfl, rfl, rfl⟩,
   ⟨_, _, rfl, rfl, rfl, rfl, rfl, rfl⟩,
   ⟨_, _, rfl, rfl, rfl, rfl, rfl, rfl⟩,
   ⟨_, _, rfl, rfl, rfl, rfl, rfl, rfl⟩,
   ⟨_, _, rfl, rfl, rfl, rfl, rfl, rfl⟩,
   ⟨_, _, rfl, rfl, rfl, rfl, rfl, rfl⟩,
   ⟨_, _, rfl, rfl, rfl, rfl, rfl, rfl⟩,
   ⟨_, _, rfl, rfl, rfl, rfl, rfl, rfl⟩,
   ⟨_, _, rfl, rfl, rfl, rfl, rfl, rfl⟩,
   ⟨_, _, rfl, rfl, rfl, rfl, rfl, rfl⟩,
   ⟨_, _, rfl, rfl, rfl, rfl, rfl, rfl⟩,
   ⟨_, _, rfl, rfl, rfl, rfl, rfl, rfl⟩,
   ⟨_, _, rfl, rfl, rfl, rfl, rfl, rfl⟩,
   ⟨_, _, rfl, rfl, rfl, rfl, rfl, rfl⟩,
   ⟨_, _, rfl, rfl, rfl, rfl, rfl, rfl⟩,
   ⟨_, _, rfl, rfl, rfl, rfl, rfl, rfl⟩,
   ⟨_, _, rfl, rfl, rfl, rfl, rfl, rfl⟩,
   ⟨_, _, rfl, rfl, rfl, rfl, rfl, rfl⟩,
   ⟨_, _, rfl, rfl, rfl, rfl, rfl, rfl⟩,
   ⟨_, _, rfl, rfl, rfl, rfl, rfl, rfl⟩,
   ⟨rfl, _, rfl, rfl, rfl⟩,
   ⟨_, _, rfl, rfl, rfl, rfl, rfl, rfl⟩,
   ⟨_, _, rfl, rfl, rfl, rfl, rfl, rfl⟩,
   ⟨_, _, rfl, rfl, rfl, rfl, rfl, rfl⟩,
   ⟨_, _, rfl, rfl, rfl, rfl, rfl, rfl⟩,
   ⟨_, _, rfl, rfl, rfl, rfl, rfl, rfl⟩,
   ⟨_, _, _, rfl, rfl, rfl, rfl, rfl, rfl, rfl, rfl, by simp [Value.cells, Value.oneCell'], by decide, by decide, by decide⟩,
   ⟨_, _, rfl, rfl, rfl, rfl, rfl, rfl⟩,
   ⟨_, _, rfl, rfl, rfl, rfl, rfl, rfl⟩,
   ⟨_, _, rfl, rfl, rfl, rfl, rfl, rfl⟩,
   ⟨_, _, rfl, rfl, rfl, rfl, rfl, rfl⟩,
   ⟨rfl, _, rfl, rfl, rfl⟩,
   ⟨_, _, rfl, rfl, rfl, rfl, rfl, rfl⟩,
   ⟨_, _, rfl, rfl, rfl, rfl, rfl, rfl⟩,
   ⟨_, _, rfl, rfl, rfl, rfl, rfl, rfl⟩,
   ⟨_, _, rfl, rfl, rfl, rfl, rfl, rfl⟩,
   ⟨_, _, rfl, rfl, rfl, rfl, rfl, rfl⟩,
   ⟨_, _, _, rfl, rfl, rfl, rfl, rfl, rfl, rfl, rfl, by simp [Value.cells, Value.oneCell'], by decide, by decide, by decide⟩,
   ⟨_, _, rfl, rfl, rfl, rfl, rfl, rfl, rfl, rfl, rfl⟩,
   ⟨_, _, rfl, rfl, rfl, rfl, rfl, rfl, rfl, rfl, rfl⟩,
   ⟨_, _, _, rfl, rfl, rfl, rfl, rfl, rfl, rfl, rfl, by simp [Value.cells, Value.oneCell'], by decide, by decide, by decide⟩,
   ⟨_, _, rfl, rfl, rfl, rfl, rfl, rfl, rfl, rfl, rfl⟩,
   ⟨_, _, rfl, rfl, rfl, rfl, rfl, rfl, rfl, rfl, rfl⟩,
   ⟨_, _, rfl, rfl, rfl, rfl, rfl, rfl, rfl, rfl, rfl⟩,
   ⟨_, _, rfl, rfl, rfl, rfl, rfl, rfl, rfl, rfl, rfl⟩,
   ⟨_, _, _, rfl, rfl, rfl, rfl, rfl, rfl, rfl, rfl, by simp [Value.cells, Value.oneCell'], by decide, by decide, by decide⟩,
   ⟨_, _, rfl, rfl, rfl, rfl, rfl, rfl, rfl, rfl, rfl⟩,
   ⟨_, _, rfl, rfl, rfl, rfl, rfl, rfl, rfl, rfl, rfl⟩,
   ⟨_, _, rfl, rfl, rfl, rfl, rfl, rfl, rfl, rfl, rfl⟩,
   ⟨_, _, rfl, rfl, rfl, rfl, rfl, rfl, rfl, rfl, rfl⟩,
   ⟨_, _, rfl, rfl, rfl, rfl, rfl, rfl⟩,
   ⟨_, _, rfl, rfl, rfl, rfl, rfl, rfl, rfl, rfl, rfl⟩,
   ⟨_, _, rfl, rfl, rfl, rfl, rfl, rfl, rfl, rfl, rfl⟩,
   ⟨_, _, rfl, rfl, rfl, rfl, rfl, rfl, rfl, rfl, rfl⟩,
   ⟨_, _, rfl, rfl, rfl, rfl, rfl, rfl, rfl, rfl, rfl⟩, trivial⟩
theorem mixed:Tryz.prog.follows .mixedOrders=true:=by kernel_rfl
end Go.Proofs.YtebmimnglcdogaaGreatDoor
