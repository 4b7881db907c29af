/- A part of the proof of a given statement: contracts of functions of the program, under no condition but those that each states. -/
import Derived.Test.YtgonkhaebmfgiaaGreatDoorB
import Derived.Test.YtgonkhaebmfgiaaGreatDoorFpE
set_option linter.unusedSimpArgs false
set_option linter.unusedVariables false
namespace Go.Proofs.YtgonkhaebmfgiaaGreatDoor
open Go Fp
set_option maxRecDepth 100000
set_option maxHeartbeats 8000000
theorem zRK:∀s∈wF,Low 24 s:=by
 have h:∀n:Nat,n<24->(lett n=⟨#[UInt8.ofNat (97+n)]⟩):=fun n hn=>by rw[lett,if_pos (by omega),Nat.mod_eq_of_lt (by omega)]
 intro s hs;unfold wF at hs;simp at hs;rcases hs with rfl|rfl|rfl|rfl
 ·exact⟨0,by decide,h 0 (by decide)⟩
 ·exact⟨1,by decide,h 1 (by decide)⟩
 ·exact⟨2,by decide,h 2 (by decide)⟩
 ·exact⟨23,by decide,h 23 (by decide)⟩
def rest (own:List ByteArray) (ps:Env'):List ByteArray:=own.filter fun x => !memb x (ps.map (·.1))
inductive Db where
 | no
 | mt (n:Int)
 | bv (i:Nat)
 | fr (s:ByteArray)
 | con (s:ByteArray)
 | app (a b:Db)
 | all (a:Db)
def ixN {α:Type} [DecidableEq α]:List α->α->Nat
 | [],_=>0
 | x::l,s=>if x=s then 0 else ixN l s+1
def sb (σ:ByteArray->Db):Db->Db
 | .fr s=>σ s
 | .app a b => .app (sb σ a) (sb σ b)
 | .all a => .all (sb σ a)
 | d=>d
def nl:Tp->List ByteArray->ByteArray
 | .mt n,_=>⟨#[63]⟩++dcm n.toNat
 | .var s,x=>if memb s x then ⟨#[35]⟩++dcm (ixN x.reverse s) else ⟨#[39]⟩++s
 | .con s,_=>s
 | .all s a,x=>(⟨#[91]⟩++nl a (x++[s]))++⟨#[93]⟩
 | .app a b,x=>((((⟨#[40]⟩++nl a x)++⟨#[32]⟩)++nl b x)++⟨#[41]⟩)
 | .no,_ => .empty
def tk (c:UInt8):Bool:=(48<=c && c<=57) || (65<=c && c<=90) || (97<=c && c<=122)
abbrev by' (s:ByteArray):List UInt8:=s.data.toList
theorem z1U (a b:ByteArray):by' (a++b)=by' a++by' b:=zM7 a b
end Go.Proofs.YtgonkhaebmfgiaaGreatDoor
