/- Core as a tree of one sort, and how it lies in memory; what is free in it, how many nodes there are. Plain. No condition. -/
import Derived.Test.YtebmimnglcdogaaGreatDoorM
set_option linter.unusedSimpArgs false
set_option linter.unusedVariables false
namespace Go.Proofs.YtebmimnglcdogaaGreatDoor.Ck
open Go Fp
set_option maxRecDepth 10000
set_option maxHeartbeats 1000000
set_option linter.unusedVariables false
set_option linter.unusedSimpArgs false
abbrev fvT (t:Tp):List ByteArray:=fv t
inductive Cr where
 | nil
 | node (f n:Int) (s:ByteArray) (t:Tp) (g:Cr)
 | kid (p r:Cr)
 | bind (x:ByteArray) (t:Tp) (p r:Cr)
 | alt (f n:Int) (s:ByteArray) (vs:List ByteArray) (p r:Cr)
 deriving DecidableEq
namespace Cr
def f:Cr->Int|node f _ _ _ _=>f|_=>0
def n:Cr->Int|node _ n _ _ _=>n|_=>0
def s:Cr->ByteArray|node _ _ s _ _=>s|_ => .empty
def t:Cr->Tp|node _ _ _ t _=>t|_ => .no
def isN:Cr->Bool|node _ _ _ _ _=>true|_=>false
def e3:Cr->Nat->List AV
 | nil,_=>[]
 | node _ _ _ _ g,i=>e3 g i
 | kid p r,i=>match i with
  | 0 => .agg [.lit (.int .i64 p.f),.lit (.int .i64 p.n),.lit (.string p.s),.lit (.int .i64 p.t.form),.lit (.int .i64 p.t.num),.lit (.string p.t.nam),.sl p.t.eArgs,.sl (e3 p 0),.sl (e3 p 1),.sl (e3 p 2)]::e3 r 0
  | i+1=>e3 r (i+1)
 | bind x t p r,i=>match i with
  | 1 => .agg [.lit (.string x),.lit (.int .i64 t.form),.lit (.int .i64 t.num),.lit (.string t.nam),.sl t.eArgs,.lit (.int .i64 p.f),.lit (.int .i64 p.n),.lit (.string p.s),.lit (.int .i64 p.t.form),.lit (.int .i64 p.t.num),.lit (.string p.t.nam),.sl p.t.eArgs,.sl (e3 p 0),.sl (e3 p 1),.sl (e3 p 2)]::e3 r 1
  | 0=>e3 r 0
  | i+2=>e3 r (i+2)
 | alt f n s vs p r,i=>match i with
  | 2 => .agg [.lit (.int .i64 f),.lit (.int .i64 n),.lit (.string s),.sl (eSs vs),.lit (.int .i64 p.f),.lit (.int .i64 p.n),.lit (.string p.s),.lit (.int .i64 p.t.form),.lit (.int .i64 p.t.num),.lit (.string p.t.nam),.sl p.t.eArgs,.sl (e3 p 0),.sl (e3 p 1),.sl (e3 p 2)]::e3 r 2
  | 0=>e3 r 0
  | 1=>e3 r 1
  | i+3=>e3 r (i+3)
def kids:Cr->List Cr
 | nil=>[]
 | node _ _ _ _ g=>kids g
 | kid p r=>p::kids r
 | bind _ _ _ r=>kids r
 | alt _ _ _ _ _ r=>kids r
def binds:Cr->List (ByteArray×Tp×Cr)
 | nil=>[]
 | node _ _ _ _ g=>binds g
 | kid _ r=>binds r
 | bind x t p r=>(x,t,p)::binds r
 | alt _ _ _ _ _ r=>binds r
def alts:Cr->List ((Int×Int×ByteArray)×List ByteArray×Cr)
 | nil=>[]
 | node _ _ _ _ g=>alts g
 | kid _ r=>alts r
 | bind _ _ _ r=>alts r
 | alt f n s vs p r=>((f,n,s),vs,p)::alts r
def sz:Cr->Nat
 | nil=>0
 | node _ _ _ _ g=>1+sz g
 | kid p r=>sz p+sz r
 | bind _ _ p r=>sz p+sz r
 | alt _ _ _ _ p r=>sz p+sz r
end Cr
def eC (c:Cr):AV := .agg [.lit (.int .i64 c.f),.lit (.int .i64 c.n),.lit (.string c.s),.lit (.int .i64 c.t.form),.lit (.int .i64 c.t.num),.lit (.string c.t.nam),.sl c.t.eArgs,.sl (c.e3 0),.sl (c.e3 1),.sl (c.e3 2)]
def eBd (b:ByteArray×Tp×Cr):AV := .agg [.lit (.string b.1),.lit (.int .i64 b.2.1.form),.lit (.int .i64 b.2.1.num),.lit (.string b.2.1.nam),.sl b.2.1.eArgs,.lit (.int .i64 b.2.2.f),.lit (.int .i64 b.2.2.n),.lit (.string b.2.2.s),.lit (.int .i64 b.2.2.t.form),.lit (.int .i64 b.2.2.t.num),.lit (.string b.2.2.t.nam),.sl b.2.2.t.eArgs,.sl (b.2.2.e3 0),.sl (b.2.2.e3 1),.sl (b.2.2.e3 2)]
def eAl (a:(Int×Int×ByteArray)×List ByteArray×Cr):AV := .agg [.lit (.int .i64 a.1.1),.lit (.int .i64 a.1.2.1),.lit (.string a.1.2.2),.sl (eSs a.2.1),.lit (.int .i64 a.2.2.f),.lit (.int .i64 a.2.2.n),.lit (.string a.2.2.s),.lit (.int .i64 a.2.2.t.form),.lit (.int .i64 a.2.2.t.num),.lit (.string a.2.2.t.nam),.sl a.2.2.t.eArgs,.sl (a.2.2.e3 0),.sl (a.2.2.e3 1),.sl (a.2.2.e3 2)]
def eCs (l:List Cr):List AV:=l.map eC
def xB (l:List (ByteArray×Tp×Cr)):List AV:=l.map eBd
def zA4 (l:List ((Int×Int×ByteArray)×List ByteArray×Cr)):List AV:=l.map eAl
theorem z0N (c:Cr):c.e3 0=eCs c.kids:=by
 induction c with
 | nil=>rfl
 | node f n s t g ih=>exact ih
 | kid p r _ ih=>show eC p::_=_;rw[ih];rfl
 | bind x t p r _ ih=>exact ih
 | alt f n s vs p r _ ih=>exact ih
theorem z0G (c:Cr):c.e3 1=xB c.binds:=by
 induction c with
 | nil=>rfl
 | node f n s t g ih=>exact ih
 | kid p r _ ih=>exact ih
 | bind x t p r _ ih=>show eBd (x,t,p)::_=_;rw[ih];rfl
 | alt f n s vs p r _ ih=>exact ih
theorem z16 (c:Cr):c.e3 2=zA4 c.alts:=by
 induction c with
 | nil=>rfl
 | node f n s t g ih=>exact ih
 | kid p r _ ih=>exact ih
 | bind x t p r _ ih=>exact ih
 | alt f n s vs p r _ ih=>show eAl ((f,n,s),vs,p)::_=_;rw[ih];rfl
namespace Cr
def own:Cr->List ByteArray
 | node f _ s _ _=>if f=5 then [s] else []
 | _=>[]
def z3G (c:Cr):List ByteArray:=c.own++c.binds.map (·.1)
def fv:Cr->List ByteArray
 | nil=>[]
 | node f n s t g=>if f=1 then [s] else insAll (fun y=>memb y (z3G (node f n s t g))) [] (fv g)
 | kid p r=>insAll no (fv p) (fv r)
 | bind _ _ p r=>insAll no (fv p) (fv r)
 | alt _ _ _ vs p r=>insAll no (insAll (fun y=>memb y vs) [] (fv p)) (fv r)
def tv:Cr->List ByteArray
 | nil=>[]
 | node f _ s t g=>insAll (fun y=>decide (f=7) && decide (y=s)) (fvT t) (tv g)
 | kid p r=>insAll no (tv p) (tv r)
 | bind _ t p r=>insAll no (insAll no (fvT t) (tv p)) (tv r)
 | alt _ _ _ _ p r=>insAll no (tv p) (tv r)
def nk (f:Int):Nat:=if f=4∨f=10 then 2 else if f=5∨f=6∨f=7∨f=8∨f=9 then 1 else 0
def Ok:Cr->Prop
 | nil=>True
 | node f n s t g=>g.isN=false/\(f=1->t = .no/\g=nil)/\(f=7->t = .no)/\g.kids.length=nk f/\(g.binds≠[]->f=8)/\(g.alts≠[]->f=9)/\(g.binds.map (·.1)).Nodup/\Ok g
 | kid p r=>p.isN=true/\r.isN=false/\Ok p/\Ok r
 | bind x t p r=>p.isN=true/\r.isN=false/\r.kids=[]/\Ok p/\Ok r
 | alt f n s vs p r=>p.isN=true/\r.isN=false/\r.kids=[]/\r.binds=[]/\vs.Nodup/\Ok p/\Ok r
end Cr
end Go.Proofs.YtebmimnglcdogaaGreatDoor.Ck
