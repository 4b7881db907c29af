/- Core without names, as a text: what it says. Plain. No condition. -/
import Derived.Test.YtgonkhaebmfgiaaGreatDoorU
set_option linter.unusedSimpArgs false
set_option linter.unusedVariables false
namespace Go.Proofs.YtgonkhaebmfgiaaGreatDoor
open Go Fp
set_option maxRecDepth 10000
set_option maxHeartbeats 4000000
set_option linter.unusedVariables false
def dci (n:Int):ByteArray:=if 0<=n then dcm n.toNat else ⟨#[45]⟩++dcm (-n).toNat
def tw (c:UInt8):Bool:=tk c || c == 45 || c == 64
def Wd (s:ByteArray):Prop := ∀c∈by' s,tw c=true
theorem zES {s:ByteArray} (h:s∈W18):Wd s/\s.size<=5:=by
 have:W18.all (fun s=>s.data.toList.all tw && decide (s.size<=5))=true:=by decide
 have:=List.all_eq_true.1 this s h;simp only[Bool.and_eq_true,decide_eq_true_eq] at this;exact⟨fun c hc=>List.all_eq_true.1 this.1 c hc,this.2⟩
theorem zSC (s:ByteArray):(by' s).length=s.size:=rfl
theorem zSM {n:Int} (h1 : -1000000<n) (h2:n<1000000):(by' (dci n)).length<=7:=by
 unfold dci;split
 ·have:=zAW 6 n.toNat (by omega) (by decide);rw[zSC];omega
 ·have:=zAW 6 (-n).toNat (by omega) (by decide);rw[z1U,List.length_append,zSC (dcm _)];simp only[by',List.length_cons,List.length_nil];omega
set_option maxRecDepth 100000
set_option maxHeartbeats 8000000
theorem zYT {n:Int} (h1 : -3<=n) (h2:n<100000000):zF Tryz.prog 75 [.lit (.int .i64 n)] (.lit (.string (dci n))):=by
 by_cases h0:0<=n
 ·obtain⟨k,rfl⟩:=Int.eq_ofNat_of_zero_le h0;have e:dci (k:Int)=dcm k:=by unfold dci;rw[if_pos h0];rfl
  rw[e];exact zJP 100000000 k (by omega) (by decide)
 ·have hd:∀m:Nat,m<10->dcm m=⟨#[UInt8.ofNat (48+m)]⟩:=fun m h=>wY h;have:n = -3∨n = -2∨n = -1:=by omega
  rcases this with rfl|rfl|rfl
  all_goals
   unfold dci;rw[if_neg (by decide),hd _ (by decide)];refine zH ttok mixed Tryz.func75 rfl (by rfl) (Nat.le_of_ble_eq_true rfl) (by kernel_rfl) ?_;refine⟨by decide,?_⟩;refine⟨fun _=>?_,fun h=>absurd h (by decide)⟩;refine⟨fun _=>?_,fun h=>absurd h (by decide)⟩;refine⟨fun _=>?_,fun h=>absurd h (by decide)⟩;refine⟨fun _=>?_,fun h=>absurd h (by decide)⟩;refine⟨by decide,?_⟩;exact rfl
end Go.Proofs.YtgonkhaebmfgiaaGreatDoor
