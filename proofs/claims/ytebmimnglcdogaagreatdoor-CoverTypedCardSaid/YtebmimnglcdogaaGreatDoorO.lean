/- Core whose memory is known: a node with blocks of its own for its kids, its binds, its alternatives and their names. No condition. -/
import Derived.Test.YtebmimnglcdogaaGreatDoorN
import Derived.Test.YtebmimnglcdogaaGreatDoorFpM
set_option linter.unusedSimpArgs false
set_option linter.unusedVariables false
namespace Go.Proofs.YtebmimnglcdogaaGreatDoor.Ck
open Go Fp
set_option maxRecDepth 10000
set_option maxHeartbeats 1000000
set_option linter.unusedVariables false
set_option linter.unusedSimpArgs false
abbrev Bdg:=ByteArray×Tp×Cr
abbrev Alg:=(Int×Int×ByteArray)×List ByteArray×Cr
structure VA where
 A:Option Addr
 cap:Nat
 z:List AV
structure Ad where
 b0:Nat
 k:VA
 b:VA
 a:VA
 vs:List VA
structure Nd where
 f:Int
 n:Int
 s:ByteArray
 t:Tp
 ks:List Cr
 bs:List Bdg
 ls:List Alg
abbrev slA (v:VA) (n:Nat):AV := .lit (.slice v.A n v.cap)
def blk (v:VA) (n:Nat) (l:List AV):List (Nat×HO):=match n,v.A with
 | _+1,some a=>[(a.block,HO.cells l)]
 | _,_=>[]
structure zYH (v:VA) (n:Nat):Prop where
 n0:n=0->Sl0 v.A v.cap
 pos:0<n->∃b,v.A=some ⟨b,0,none⟩/\n<=v.cap
theorem zSJ {v:VA} {l:List AV}:blk v 0 l=[]:=by unfold blk;split<;>simp_all
def zYL (a:Alg) (v:VA):AV := .agg [.lit (.int .i64 a.1.1),.lit (.int .i64 a.1.2.1),.lit (.string a.1.2.2),slA v a.2.1.length,.lit (.int .i64 a.2.2.f),.lit (.int .i64 a.2.2.n),.lit (.string a.2.2.s),.lit (.int .i64 a.2.2.t.form),.lit (.int .i64 a.2.2.t.num),.lit (.string a.2.2.t.nam),.sl a.2.2.t.eArgs,.sl (a.2.2.e3 0),.sl (a.2.2.e3 1),.sl (a.2.2.e3 2)]
def zX8 (ls:List Alg) (vs:List VA):List AV:=List.zipWith zYL ls vs
def hV (ls:List Alg) (vs:List VA):List (Nat×HO):=(List.zipWith (fun (a:Alg) (v:VA)=>blk v a.2.1.length (flR (eSs a.2.1) v.z)) ls vs).flatten
def hM (ad:Ad) (x:Nd):List (Nat×HO):=blk ad.k x.ks.length (flR (eCs x.ks) ad.k.z)++(blk ad.b x.bs.length (flR (zYK x.bs) ad.b.z)++(blk ad.a x.ls.length (flR (zX8 x.ls ad.vs) ad.a.z)++hV x.ls ad.vs))
set_option maxHeartbeats 4000000
def CloneP (l:List AV) (r:AV) (o:Nat) (h:List (Nat×HO)):Prop:=o=0/\∃v:VA,zYH v l.length/\r=slA v l.length/\h=blk v l.length (flR l v.z)
theorem cloneP0 (A:Option Addr) (cap:Nat) (h:Sl0 A cap):CloneP [] (.lit (.slice A 0 cap)) 0 []:=⟨rfl,⟨A,cap,[]⟩,⟨fun _=>h,fun h=>absurd h (by decide)⟩,rfl,(zSJ (v:=⟨A,cap,[]⟩)).symm⟩
theorem cloneP1 {l:List AV} (hl:0<l.length) {b cap:Nat} (hc:l.length<=cap) (zs:List AV):CloneP l (.lit (.slice (some ⟨b,0,none⟩) l.length cap)) 0 [(b,HO.cells (flR l zs))] :=
 ⟨rfl,⟨some ⟨b,0,none⟩,cap,zs⟩,⟨fun h=>absurd h (by omega),fun _=>⟨b,rfl,hc⟩⟩,rfl,by
  obtain⟨m,hm⟩:∃m,l.length=m+1:=⟨l.length-1,by omega⟩
  simp[blk,hm]⟩
end Go.Proofs.YtebmimnglcdogaaGreatDoor.Ck
