/- A part of the proof of a given statement: contracts of functions of the program, under no condition but those that each states. -/
import Derived.Test.YtdmbahepaglcbaaGreatDoorF
import Derived.Test.YtdmbahepaglcbaaGreatDoorFpM
set_option linter.unusedSimpArgs false
set_option linter.unusedVariables false
namespace Go.Proofs.YtdmbahepaglcbaaGreatDoor
open Go Fp
set_option maxRecDepth 100000
set_option maxHeartbeats 8000000
def nl:Tp->List ByteArray->ByteArray
 | .mt n,_=>⟨#[63]⟩++dcm n.toNat
 | .var s,x=>if memb s x then ⟨#[35]⟩++dcm (ixN x.reverse s) else ⟨#[39]⟩++s
 | .con s,_=>s
 | .all s a,x=>(⟨#[91]⟩++nl a (x++[s]))++⟨#[93]⟩
 | .app a b,x=>((((⟨#[40]⟩++nl a x)++⟨#[32]⟩)++nl b x)++⟨#[41]⟩)
 | .no,_ => .empty
theorem zEY {n:Int} (h0 : -1<=n) (h1:n<9223372036854775807):IntKind.i64.wrap n=n:=wrap_in (by unfold InR;omega)
def tk (c:UInt8):Bool:=(48<=c && c<=57) || (65<=c && c<=90) || (97<=c && c<=122)
abbrev by' (s:ByteArray):List UInt8:=s.data.toList
theorem zCR (a b:ByteArray):by' (a++b)=by' a++by' b:=zL0 a b
theorem zIW {a b:ByteArray} (h:by' a=by' b):a=b:=by
 cases a;cases b;simpa[by',Array.toList_inj] using h
theorem zYA:∀d:Fin 10,tk (UInt8.ofNat (48+d.val))=true:=by decide
theorem zW8:∀d:Fin 26,tk (UInt8.ofNat (97+d.val))=true:=by decide
theorem zVF (n:Nat):∀c∈by' (dcm n),tk c=true:=by
 induction n using Nat.strongRecOn with
 | _ n ih =>
  intro c hc;by_cases h:n<10
  ·rw[jB h] at hc;rw[List.mem_singleton.1 (show c∈[UInt8.ofNat (48+n)] from hc)];exact zYA ⟨n,h⟩
  ·rw[zC7 h,zCR] at hc;rcases List.mem_append.1 hc with hc|hc
   ·exact ih (n / 10) (by omega) c hc
   ·rw[List.mem_singleton.1 (show c∈[UInt8.ofNat (48+n % 10)] from hc)];exact zYA ⟨n % 10,by omega⟩
theorem zYX (n:Nat):∀c∈by' (lett n),tk c=true:=by
 intro c hc;unfold lett at hc;split at hc
 ·rw[List.mem_singleton.1 (show c∈[UInt8.ofNat (97+n % 26)] from hc)];exact zW8 ⟨n % 26,by omega⟩
 ·rw[zCR] at hc;rcases List.mem_append.1 hc with hc|hc
  ·rw[List.mem_singleton.1 (show c∈[UInt8.ofNat (97+n % 26)] from hc)];exact zW8 ⟨n % 26,by omega⟩
  ·exact zVF _ c hc
theorem zR2 {a b:Nat} (h:by' (dcm a)=by' (dcm b)):a=b:=by rw[<-zIJ a,<-zIJ b];exact congrArg digs h
def ser:Db->List UInt8
 | .mt n=>63::by' (dcm n.toNat)
 | .bv i=>35::by' (dcm i)
 | .fr s=>39::by' s
 | .con s=>by' s
 | .all a=>91::(ser a++[93])
 | .app a b=>40::(ser a++32::(ser b++[41]))
 | .no=>[]
theorem zB9 (t:Tp):∀x,by' (nl t x)=ser (db t x.reverse):=by
 induction t with
 | no=>intro x;rfl
 | mt n=>intro x;rw[nl,zCR];rfl
 | con s=>intro x;rfl
 | var s =>
  intro x;simp only[nl,db,zNY];split
  ·rw[zCR];rfl
  ·rw[zCR];rfl
 | app a b iha ihb =>
  intro x;simp only[nl,zCR,iha,ihb,db,ser];simp[by']
 | all s a ih =>
  intro x;simp only[nl,zCR,ih,db,ser,List.reverse_append,List.reverse_cons,List.reverse_nil,List.nil_append,List.singleton_append];simp[by']
set_option linter.unusedVariables false
set_option linter.unusedSimpArgs false
abbrev fvT (t:Tp):List ByteArray:=fv t
inductive Cr where
 | nil
 | node (f n:Int) (s:ByteArray) (t:Tp) (g:Cr)
 | kid (p r:Cr)
 | bind (x:ByteArray) (t:Tp) (p r:Cr)
 | alt (f n:Int) (s:ByteArray) (vs:List ByteArray) (p r:Cr)
 deriving DecidableEq
namespace Cr
def f:Cr->Int|node f _ _ _ _=>f|_=>0
def n:Cr->Int|node _ n _ _ _=>n|_=>0
def s:Cr->ByteArray|node _ _ s _ _=>s|_ => .empty
def t:Cr->Tp|node _ _ _ t _=>t|_ => .no
def isN:Cr->Bool|node _ _ _ _ _=>true|_=>false
def e3:Cr->Nat->List AV
 | nil,_=>[]
 | node _ _ _ _ g,i=>e3 g i
 | kid p r,i=>match i with
  | 0 => .agg [.lit (.int .i64 p.f),.lit (.int .i64 p.n),.lit (.string p.s),.lit (.int .i64 p.t.form),.lit (.int .i64 p.t.num),.lit (.string p.t.nam),.sl p.t.eArgs,.sl (e3 p 0),.sl (e3 p 1),.sl (e3 p 2)]::e3 r 0
  | i+1=>e3 r (i+1)
 | bind x t p r,i=>match i with
  | 1 => .agg [.lit (.string x),.lit (.int .i64 t.form),.lit (.int .i64 t.num),.lit (.string t.nam),.sl t.eArgs,.lit (.int .i64 p.f),.lit (.int .i64 p.n),.lit (.string p.s),.lit (.int .i64 p.t.form),.lit (.int .i64 p.t.num),.lit (.string p.t.nam),.sl p.t.eArgs,.sl (e3 p 0),.sl (e3 p 1),.sl (e3 p 2)]::e3 r 1
  | 0=>e3 r 0
  | i+2=>e3 r (i+2)
 | alt f n s vs p r,i=>match i with
  | 2 => .agg [.lit (.int .i64 f),.lit (.int .i64 n),.lit (.string s),.sl (eSs vs),.lit (.int .i64 p.f),.lit (.int .i64 p.n),.lit (.string p.s),.lit (.int .i64 p.t.form),.lit (.int .i64 p.t.num),.lit (.string p.t.nam),.sl p.t.eArgs,.sl (e3 p 0),.sl (e3 p 1),.sl (e3 p 2)]::e3 r 2
  | 0=>e3 r 0
  | 1=>e3 r 1
  | i+3=>e3 r (i+3)
def kids:Cr->List Cr
 | nil=>[]
 | node _ _ _ _ g=>kids g
 | kid p r=>p::kids r
 | bind _ _ _ r=>kids r
 | alt _ _ _ _ _ r=>kids r
def binds:Cr->List (ByteArray×Tp×Cr)
 | nil=>[]
 | node _ _ _ _ g=>binds g
 | kid _ r=>binds r
 | bind x t p r=>(x,t,p)::binds r
 | alt _ _ _ _ _ r=>binds r
def alts:Cr->List ((Int×Int×ByteArray)×List ByteArray×Cr)
 | nil=>[]
 | node _ _ _ _ g=>alts g
 | kid _ r=>alts r
 | bind _ _ _ r=>alts r
 | alt f n s vs p r=>((f,n,s),vs,p)::alts r
def sz:Cr->Nat
 | nil=>0
 | node _ _ _ _ g=>1+sz g
 | kid p r=>sz p+sz r
 | bind _ _ p r=>sz p+sz r
 | alt _ _ _ _ p r=>sz p+sz r
end Cr
def eC (c:Cr):AV := .agg [.lit (.int .i64 c.f),.lit (.int .i64 c.n),.lit (.string c.s),.lit (.int .i64 c.t.form),.lit (.int .i64 c.t.num),.lit (.string c.t.nam),.sl c.t.eArgs,.sl (c.e3 0),.sl (c.e3 1),.sl (c.e3 2)]
def eBd (b:ByteArray×Tp×Cr):AV := .agg [.lit (.string b.1),.lit (.int .i64 b.2.1.form),.lit (.int .i64 b.2.1.num),.lit (.string b.2.1.nam),.sl b.2.1.eArgs,.lit (.int .i64 b.2.2.f),.lit (.int .i64 b.2.2.n),.lit (.string b.2.2.s),.lit (.int .i64 b.2.2.t.form),.lit (.int .i64 b.2.2.t.num),.lit (.string b.2.2.t.nam),.sl b.2.2.t.eArgs,.sl (b.2.2.e3 0),.sl (b.2.2.e3 1),.sl (b.2.2.e3 2)]
def eAl (a:(Int×Int×ByteArray)×List ByteArray×Cr):AV := .agg [.lit (.int .i64 a.1.1),.lit (.int .i64 a.1.2.1),.lit (.string a.1.2.2),.sl (eSs a.2.1),.lit (.int .i64 a.2.2.f),.lit (.int .i64 a.2.2.n),.lit (.string a.2.2.s),.lit (.int .i64 a.2.2.t.form),.lit (.int .i64 a.2.2.t.num),.lit (.string a.2.2.t.nam),.sl a.2.2.t.eArgs,.sl (a.2.2.e3 0),.sl (a.2.2.e3 1),.sl (a.2.2.e3 2)]
def eCs (l:List Cr):List AV:=l.map eC
def yV (l:List (ByteArray×Tp×Cr)):List AV:=l.map eBd
def jX (l:List ((Int×Int×ByteArray)×List ByteArray×Cr)):List AV:=l.map eAl
theorem zRV (c:Cr):c.e3 0=eCs c.kids:=by
 induction c with
 | nil=>rfl
 | node f n s t g ih=>exact ih
 | kid p r _ ih=>show eC p::_=_;rw[ih];rfl
 | bind x t p r _ ih=>exact ih
 | alt f n s vs p r _ ih=>exact ih
theorem zZP (c:Cr):c.e3 1=yV c.binds:=by
 induction c with
 | nil=>rfl
 | node f n s t g ih=>exact ih
 | kid p r _ ih=>exact ih
 | bind x t p r _ ih=>show eBd (x,t,p)::_=_;rw[ih];rfl
 | alt f n s vs p r _ ih=>exact ih
theorem zTO (c:Cr):c.e3 2=jX c.alts:=by
 induction c with
 | nil=>rfl
 | node f n s t g ih=>exact ih
 | kid p r _ ih=>exact ih
 | bind x t p r _ ih=>exact ih
 | alt f n s vs p r _ ih=>show eAl ((f,n,s),vs,p)::_=_;rw[ih];rfl
namespace Cr
def own:Cr->List ByteArray
 | node f _ s _ _=>if f=5 then [s] else []
 | _=>[]
def z0X (c:Cr):List ByteArray:=c.own++c.binds.map (·.1)
def fv:Cr->List ByteArray
 | nil=>[]
 | node f n s t g=>if f=1 then [s] else zK (fun y=>memb y (z0X (node f n s t g))) [] (fv g)
 | kid p r=>zK no (fv p) (fv r)
 | bind _ _ p r=>zK no (fv p) (fv r)
 | alt _ _ _ vs p r=>zK no (zK (fun y=>memb y vs) [] (fv p)) (fv r)
def tv:Cr->List ByteArray
 | nil=>[]
 | node f _ s t g=>zK (fun y=>decide (f=7) && decide (y=s)) (fvT t) (tv g)
 | kid p r=>zK no (tv p) (tv r)
 | bind _ t p r=>zK no (zK no (fvT t) (tv p)) (tv r)
 | alt _ _ _ _ p r=>zK no (tv p) (tv r)
def nk (f:Int):Nat:=if f=4∨f=10 then 2 else if f=5∨f=6∨f=7∨f=8∨f=9 then 1 else 0
def Ok:Cr->Prop
 | nil=>True
 | node f n s t g=>g.isN=false/\(f=1->t = .no/\g=nil)/\(f=7->t = .no)/\g.kids.length=nk f/\(g.binds≠[]->f=8)/\(g.alts≠[]->f=9)/\(g.binds.map (·.1)).Nodup/\Ok g
 | kid p r=>p.isN=true/\r.isN=false/\Ok p/\Ok r
 | bind x t p r=>p.isN=true/\r.isN=false/\r.kids=[]/\Ok p/\Ok r
 | alt f n s vs p r=>p.isN=true/\r.isN=false/\r.kids=[]/\r.binds=[]/\vs.Nodup/\Ok p/\Ok r
end Cr
abbrev Bdg:=ByteArray×Tp×Cr
abbrev Alg:=(Int×Int×ByteArray)×List ByteArray×Cr
structure VA where
 A:Option Addr
 cap:Nat
 z:List AV
structure Ad where
 b0:Nat
 k:VA
 b:VA
 a:VA
 vs:List VA
structure Nd where
 f:Int
 n:Int
 s:ByteArray
 t:Tp
 ks:List Cr
 bs:List Bdg
 ls:List Alg
def lst (ks:List Cr) (bs:List Bdg) (ls:List Alg):Cr:=ks.foldr .kid (bs.foldr (fun b r => .bind b.1 b.2.1 b.2.2 r) (ls.foldr (fun a r => .alt a.1.1 a.1.2.1 a.1.2.2 a.2.1 a.2.2 r) .nil))
def Nd.cr (x:Nd):Cr := .node x.f x.n x.s x.t (lst x.ks x.bs x.ls)
def jV (c:Cr):Nd:=⟨c.f,c.n,c.s,c.t,c.kids,c.binds,c.alts⟩
theorem zT4 (ks:List Cr) (bs:List Bdg) (ls:List Alg):(lst ks bs ls).kids=ks/\(lst ks bs ls).binds=bs/\(lst ks bs ls).alts=ls/\(lst ks bs ls).isN=false:=by
 induction ks with
 | cons p ks ih=>obtain⟨h1,h2,h3,_⟩:=ih;exact⟨congrArg (p :: ·) h1,h2,h3,rfl⟩
 | nil =>
  induction bs with
  | cons b bs ih=>obtain⟨h1,h2,h3,_⟩:=ih;exact⟨h1,congrArg (b :: ·) h2,h3,rfl⟩
  | nil =>
   induction ls with
   | cons a ls ih=>obtain⟨h1,h2,h3,_⟩:=ih;exact⟨h1,h2,congrArg (a :: ·) h3,rfl⟩
   | nil=>exact⟨rfl,rfl,rfl,rfl⟩
theorem zWK (g:Cr) (h:g.isN=false) (ho:g.Ok):lst g.kids g.binds g.alts=g:=by
 induction g with
 | nil=>rfl
 | node=>cases h
 | kid p r _ ih=>exact congrArg (Cr.kid p) (ih ho.2.1 ho.2.2.2)
 | bind x t p r _ ih =>
  have:=ih ho.2.1 ho.2.2.2.2;rw[ho.2.2.1] at this;show lst r.kids ((x,t,p)::r.binds) r.alts=_;rw[ho.2.2.1];exact congrArg (Cr.bind x t p) this
 | alt f n s vs p r _ ih =>
  have:=ih ho.2.1 ho.2.2.2.2.2.2;rw[ho.2.2.1,ho.2.2.2.1] at this;show lst r.kids r.binds (((f,n,s),vs,p)::r.alts)=_;rw[ho.2.2.1,ho.2.2.2.1];exact congrArg (Cr.alt f n s vs p) this
theorem z2L {c:Cr} (h:c.isN=true) (ho:c.Ok):(jV c).cr=c:=by
 cases c with
 | node f n s t g=>show Cr.node f n s t (lst g.kids g.binds g.alts)=_;rw[zWK g ho.1 ho.2.2.2.2.2.2.2]
 | _=>cases h
theorem z2M (x:Nd):x.cr.e3 0=eCs x.ks/\x.cr.e3 1=yV x.bs/\x.cr.e3 2=jX x.ls:=by
 obtain⟨h1,h2,h3,_⟩:=zT4 x.ks x.bs x.ls;exact⟨by rw[zRV];exact congrArg eCs h1,by rw[zZP];exact congrArg yV h2,by rw[zTO];exact congrArg jX h3⟩
abbrev slA (v:VA) (n:Nat):AV := .lit (.slice v.A n v.cap)
def blk (v:VA) (n:Nat) (l:List AV):List (Nat×HO):=match n,v.A with
 | _+1,some a=>[(a.block,HO.cells l)]
 | _,_=>[]
def VA.no (v:VA):Nat:=match v.A with|some a=>a.block|none=>0
structure VAok (v:VA) (n:Nat):Prop where
 n0:n=0->Sl0 v.A v.cap
 pos:0<n->∃b,v.A=some ⟨b,0,none⟩/\n<=v.cap
theorem zWF {v:VA} {l:List AV}:blk v 0 l=[]:=by unfold blk;split<;>simp_all
theorem zB8 {v:VA} {n:Nat} {l:List AV} (h:VAok v n) (hn:0<n):blk v n l=[(v.no,HO.cells l)]:=by
 obtain⟨b,hb,_⟩:=h.pos hn;obtain⟨m,rfl⟩:∃m,n=m+1:=⟨n-1,by omega⟩
 simp[blk,VA.no,hb]
theorem VAok.at {v:VA} {n:Nat} (h:VAok v n) (hn:0<n):v.A=some ⟨v.no,0,none⟩:=by
 obtain⟨b,hb,_⟩:=h.pos hn;simp[VA.no,hb]
def jT (ad:Ad) (x:Nd):List AV:=[.lit (.int .i64 x.f),.lit (.int .i64 x.n),.lit (.string x.s),.lit (.int .i64 x.t.form),.lit (.int .i64 x.t.num),.lit (.string x.t.nam),.sl x.t.eArgs,slA ad.k x.ks.length,slA ad.b x.bs.length,slA ad.a x.ls.length]
def zQV (a:Alg) (v:VA):AV := .agg [.lit (.int .i64 a.1.1),.lit (.int .i64 a.1.2.1),.lit (.string a.1.2.2),slA v a.2.1.length,.lit (.int .i64 a.2.2.f),.lit (.int .i64 a.2.2.n),.lit (.string a.2.2.s),.lit (.int .i64 a.2.2.t.form),.lit (.int .i64 a.2.2.t.num),.lit (.string a.2.2.t.nam),.sl a.2.2.t.eArgs,.sl (a.2.2.e3 0),.sl (a.2.2.e3 1),.sl (a.2.2.e3 2)]
def xO (ls:List Alg) (vs:List VA):List AV:=List.zipWith zQV ls vs
def hV (ls:List Alg) (vs:List VA):List (Nat×HO):=(List.zipWith (fun (a:Alg) (v:VA)=>blk v a.2.1.length (flR (eSs a.2.1) v.z)) ls vs).flatten
def hM (ad:Ad) (x:Nd):List (Nat×HO):=blk ad.k x.ks.length (flR (eCs x.ks) ad.k.z)++(blk ad.b x.bs.length (flR (yV x.bs) ad.b.z)++(blk ad.a x.ls.length (flR (xO x.ls ad.vs) ad.a.z)++hV x.ls ad.vs))
def HP (ad:Ad) (x:Nd):List (Nat×HO):=hM ad x++[(ad.b0,HO.cells (jT ad x))]
structure AdOk (ad:Ad) (x:Nd):Prop where
 k:VAok ad.k x.ks.length
 b:VAok ad.b x.bs.length
 a:VAok ad.a x.ls.length
 len:ad.vs.length=x.ls.length
 vs:∀(i:Nat) (a:Alg) (v:VA),x.ls[i]? = some a->ad.vs[i]? = some v->VAok v a.2.1.length
theorem zS6 (l:List Cr):Uni 10 (eCs l):=fun a ha=>by obtain⟨x,_,rfl⟩:=List.mem_map.1 ha;rfl
theorem zGV (l:List Bdg):Uni 15 (yV l):=fun a ha=>by obtain⟨x,_,rfl⟩:=List.mem_map.1 ha;rfl
theorem zXJ (l:List Alg):Uni 14 (jX l):=fun a ha=>by obtain⟨x,_,rfl⟩:=List.mem_map.1 ha;rfl
theorem zGG (ls:List Alg) (vs:List VA):Uni 14 (xO ls vs):=by
 induction ls generalizing vs with
 | nil=>intro a ha;simp[xO] at ha
 | cons a ls ih =>
  cases vs with
  | nil=>intro a ha;simp[xO] at ha
  | cons v vs =>
   intro x hx;simp only[xO,List.zipWith_cons_cons,List.mem_cons] at hx;rcases hx with rfl|hx
   ·rfl
   ·exact ih vs x hx
theorem z18 {l:List Cr} {k:Nat} (h:k<l.length):(eCs l)[k]? = some (eC l[k]):=by simp[eCs,h]
theorem zSB {l:List Bdg} {k:Nat} (h:k<l.length):(yV l)[k]? = some (eBd l[k]):=by simp[yV,h]
theorem zV7 {l:List Alg} {k:Nat} (h:k<l.length):(jX l)[k]? = some (eAl l[k]):=by simp[jX,h]
def zED (l:List AV) (r:AV) (o:Nat) (h:List (Nat×HO)):Prop:=o=0/\∃v:VA,VAok v l.length/\r=slA v l.length/\h=blk v l.length (flR l v.z)
theorem zEZ (A:Option Addr) (cap:Nat) (h:Sl0 A cap):zED [] (.lit (.slice A 0 cap)) 0 []:=⟨rfl,⟨A,cap,[]⟩,⟨fun _=>h,fun h=>absurd h (by decide)⟩,rfl,(zWF (v:=⟨A,cap,[]⟩)).symm⟩
theorem zE0 {l:List AV} (hl:0<l.length) {b cap:Nat} (hc:l.length<=cap) (zs:List AV):zED l (.lit (.slice (some ⟨b,0,none⟩) l.length cap)) 0 [(b,HO.cells (flR l zs))] :=
 ⟨rfl,⟨some ⟨b,0,none⟩,cap,zs⟩,⟨fun h=>absurd h (by omega),fun _=>⟨b,rfl,hc⟩⟩,rfl,by
  obtain⟨m,hm⟩:∃m,l.length=m+1:=⟨l.length-1,by omega⟩
  simp[blk,hm]⟩
theorem zQC (l:List AV) (hu:Uni 1 l) (hl:l.length<=1000000):zC Tryz.prog 101 [.sl l] (.sl l):=by
 refine zB ttok mixed Tryz.func101 rfl (by rfl) (Nat.le_of_ble_eq_true rfl) (by kernel_rfl) ?_;cases l with
 | nil=>exact⟨rfl,by simp,by simp[Uni],hu,rfl⟩
 | cons x l=>exact⟨by show 0+(x::l).length<=_;omega,by simp[Uni],hu,rfl⟩
theorem zUJ (l:List AV) (hu:Uni 1 l) (hl:l.length<=1000000):CallsG Tryz.prog (fnv 101) [] [.sl l] [] (zED l):=by
 cases l with
 | nil=>exact (zQC [] hu hl).lit0 zEZ
 | cons x l =>
  refine zN (first:=[]) (cap:=[]) ttok mixed Tryz.func101 rfl (by rfl) rfl (Nat.le_of_ble_eq_true rfl) (by kernel_rfl) ?_;refine Wsem.seq ttok mixed ?_;refine Wsem.seq ttok mixed ?_;refine Wsem.seqS (Wsem.regionB ttok rfl rfl rfl rfl rfl fun b=>?_);refine⟨rfl,by simp,by show 0+(x::l).length<=_;omega,hu,?_⟩;refine⟨0,[],rfl,Nat.le_refl _,rfl,fun b' cap' zs h1 h2=>?_⟩;refine Wsem.of ttok mixed ?_;have:=zE0 (l:=x::l) (by simp) (b:=b') (cap:=cap') (by omega) zs;rw[show (x::l).length=0+(x::l).length by omega] at this;exact this
theorem zQU (l:List AV) (hu:Uni 10 l) (hl:l.length<=1000000):zC Tryz.prog 98 [.sl l] (.sl l):=by
 refine zB ttok mixed Tryz.func98 rfl (by rfl) (Nat.le_of_ble_eq_true rfl) (by kernel_rfl) ?_;cases l with
 | nil=>exact⟨rfl,by simp,by simp[Uni],hu,rfl⟩
 | cons x l=>exact⟨by show 0+(x::l).length<=_;omega,by simp[Uni],hu,rfl⟩
theorem zTP (l:List AV) (hu:Uni 10 l) (hl:l.length<=1000000):CallsG Tryz.prog (fnv 98) [] [.sl l] [] (zED l):=by
 cases l with
 | nil=>exact (zQU [] hu hl).lit0 zEZ
 | cons x l =>
  refine zN (first:=[]) (cap:=[]) ttok mixed Tryz.func98 rfl (by rfl) rfl (Nat.le_of_ble_eq_true rfl) (by kernel_rfl) ?_;refine Wsem.seq ttok mixed ?_;refine Wsem.seq ttok mixed ?_;refine Wsem.seqS (Wsem.regionB ttok rfl rfl rfl rfl rfl fun b=>?_);refine⟨rfl,by simp,by show 0+(x::l).length<=_;omega,hu,?_⟩;refine⟨0,[],rfl,Nat.le_refl _,rfl,fun b' cap' zs h1 h2=>?_⟩;refine Wsem.of ttok mixed ?_;have:=zE0 (l:=x::l) (by simp) (b:=b') (cap:=cap') (by omega) zs;rw[show (x::l).length=0+(x::l).length by omega] at this;exact this
theorem zRS (l:List AV) (hu:Uni 15 l) (hl:l.length<=1000000):zC Tryz.prog 99 [.sl l] (.sl l):=by
 refine zB ttok mixed Tryz.func99 rfl (by rfl) (Nat.le_of_ble_eq_true rfl) (by kernel_rfl) ?_;cases l with
 | nil=>exact⟨rfl,by simp,by simp[Uni],hu,rfl⟩
 | cons x l=>exact⟨by show 0+(x::l).length<=_;omega,by simp[Uni],hu,rfl⟩
theorem zUC (l:List AV) (hu:Uni 15 l) (hl:l.length<=1000000):CallsG Tryz.prog (fnv 99) [] [.sl l] [] (zED l):=by
 cases l with
 | nil=>exact (zRS [] hu hl).lit0 zEZ
 | cons x l =>
  refine zN (first:=[]) (cap:=[]) ttok mixed Tryz.func99 rfl (by rfl) rfl (Nat.le_of_ble_eq_true rfl) (by kernel_rfl) ?_;refine Wsem.seq ttok mixed ?_;refine Wsem.seq ttok mixed ?_;refine Wsem.seqS (Wsem.regionB ttok rfl rfl rfl rfl rfl fun b=>?_);refine⟨rfl,by simp,by show 0+(x::l).length<=_;omega,hu,?_⟩;refine⟨0,[],rfl,Nat.le_refl _,rfl,fun b' cap' zs h1 h2=>?_⟩;refine Wsem.of ttok mixed ?_;have:=zE0 (l:=x::l) (by simp) (b:=b') (cap:=cap') (by omega) zs;rw[show (x::l).length=0+(x::l).length by omega] at this;exact this
theorem zQ2 (l:List AV) (hu:Uni 14 l) (hl:l.length<=1000000):zC Tryz.prog 100 [.sl l] (.sl l):=by
 refine zB ttok mixed Tryz.func100 rfl (by rfl) (Nat.le_of_ble_eq_true rfl) (by kernel_rfl) ?_;cases l with
 | nil=>exact⟨rfl,by simp,by simp[Uni],hu,rfl⟩
 | cons x l=>exact⟨by show 0+(x::l).length<=_;omega,by simp[Uni],hu,rfl⟩
theorem zTT (l:List AV) (hu:Uni 14 l) (hl:l.length<=1000000):CallsG Tryz.prog (fnv 100) [] [.sl l] [] (zED l):=by
 cases l with
 | nil=>exact (zQ2 [] hu hl).lit0 zEZ
 | cons x l =>
  refine zN (first:=[]) (cap:=[]) ttok mixed Tryz.func100 rfl (by rfl) rfl (Nat.le_of_ble_eq_true rfl) (by kernel_rfl) ?_;refine Wsem.seq ttok mixed ?_;refine Wsem.seq ttok mixed ?_;refine Wsem.seqS (Wsem.regionB ttok rfl rfl rfl rfl rfl fun b=>?_);refine⟨rfl,by simp,by show 0+(x::l).length<=_;omega,hu,?_⟩;refine⟨0,[],rfl,Nat.le_refl _,rfl,fun b' cap' zs h1 h2=>?_⟩;refine Wsem.of ttok mixed ?_;have:=zE0 (l:=x::l) (by simp) (b:=b') (cap:=cap') (by omega) zs;rw[show (x::l).length=0+(x::l).length by omega] at this;exact this
abbrev sv (n:Int):SV := .v (.lit (.int .i64 n))
theorem svc {a b:Int} (h:a=b):sv a=sv b:=by rw[h]
theorem z0Q (c:Cr):(c.e3 0).length=c.kids.length:=by rw[zRV];simp[eCs]
theorem z3A (c:Cr):(c.e3 1).length=c.binds.length:=by rw[zZP];simp[yV]
theorem z2F (c:Cr):(c.e3 2).length=c.alts.length:=by rw[zTO];simp[jX]
theorem z2I {c:Cr} {k:Nat} (h:k<c.kids.length):(c.e3 0)[k]? = some (eC c.kids[k]):=by rw[zRV];exact z18 h
theorem z0E {c:Cr} {k:Nat} (h:k<c.alts.length):(c.e3 2)[k]? = some (eAl c.alts[k]):=by rw[zTO];exact zV7 h
theorem z07 {α:Type} (f:α->AV) (hf:∀x,(f x).cells.length=1) (l:List α):Uni 1 (l.map f):=fun a ha=>by obtain⟨x,_,rfl⟩:=List.mem_map.1 ha;exact hf x
theorem zI5 {n:Nat} {l m:List AV} (h1:Uni n l) (h2:Uni n m):Uni n (l++m):=fun a ha=>by rcases List.mem_append.1 ha with h|h;exact h1 a h;exact h2 a h
def Grown (v:VA) (k:Nat):Prop:=(k=0/\v.A=none/\v.cap=0)∨(0<k/\∃b,v.A=some ⟨b,0,none⟩/\k<=v.cap/\v.z.length=v.cap-k)
theorem Grown.frz {v:VA} {l:List AV} (h:Grown v l.length) (hu:Uni 1 l) (hc:∀x∈l,∀c∈x.cells,c.isCell=true) (hp:List (Nat×HO)) (hin:∀x∈blk v l.length (flR l v.z),x∈hp):Frz hp (slA v l.length) (.sl l):=by
 rcases h with⟨h0,hA,hcap⟩|⟨h0,b,hA,hcap,hz⟩
 ·have:l=[]:=List.length_eq_zero_iff.1 h0;subst this;unfold slA;rw[hA,hcap];exact .nilL
 ·unfold slA;rw[hA];refine .sl b 0 l.length v.cap 1 (flR l v.z) l ?_ rfl hcap hu hc (by rw[zCX hu];omega) fun i x j c c' hx hj hc'=>?_
  ·obtain⟨m,hm⟩:∃m,l.length=m+1:=⟨l.length-1,by omega⟩
   refine hin _ ?_;simp[blk,hm,hA]
  ·have hi:=(List.getElem?_eq_some_iff.1 hx).1;have hj1:=(List.getElem?_eq_some_iff.1 hj).1;rw[hu x (List.mem_of_getElem? hx)] at hj1;rw[Nat.zero_add,zHL hu v.z hi j hj1] at hc';rw[List.getElem?_eq_getElem hi] at hx;injection hx with hx;subst hx
   rw[hj] at hc';injection hc' with hc';subst hc'
   exact .refl _
abbrev eG0 (nm:AV) (pt:List AV):AV := .agg [nm,.sl pt]
theorem z1E {nl z zs:List AV} {x:AV} {n:Nat} (hn:nl.length=n) (hu:Uni 1 nl) (hx:x.cells.length=1):((flR nl z).drop 0).take (n*1)++([x].flatMap AV.cells++zs)=flR (nl++[x]) zs:=by
 have h1:(flR nl z).take n=nl.flatMap AV.cells:=by
  unfold flR;have:(nl.flatMap AV.cells).length=n:=by have:=zCX hu [];unfold flR at this;rw[List.append_nil] at this;simp only[List.length_nil] at this;omega
  rw[List.take_append_of_le_length (by omega),List.take_of_length_le (by omega)]
 rw[List.drop_zero,Nat.mul_one,h1];simp[flR]
theorem z1V {nl z:List AV} {x:AV} {n:Nat} (hn:nl.length=n) (hu:Uni 1 nl) (hx:x.cells.length=1) (hz:1<=z.length):setAt (flR nl z) (0+n*1) ([x].flatMap AV.cells)=flR (nl++[x]) (z.drop 1):=by
 have hl:(nl.flatMap AV.cells).length=n:=by have:=zCX hu [];unfold flR at this;rw[List.append_nil] at this;simp only[List.length_nil] at this;omega
 unfold flR;have e:0+n*1=(nl.flatMap AV.cells).length+0:=by omega
 rw[e,zGQ];simp[setAt,hx]
abbrev sn4 (q:Code):Code:=xZ (xZ (xZ (xZ q)))
theorem hcut {k n:Nat} (h1:k<n) (h2:n<=1000000):IntKind.i64.wrap ((k:Int)+1)=((k+1:Nat):Int):=wrap_succ (by omega)
theorem zY7 {v:VA} {n:Nat} {l:List AV} (hA:v.A=none):blk v n l=[]:=by unfold blk;rw[hA];cases n<;>rfl
theorem zF4 {v:VA} {n:Nat} {l:List AV} {b:Nat} (h:0<n) (hA:v.A=some ⟨b,0,none⟩):blk v n l=[(b,HO.cells l)]:=by
 obtain⟨m,hm⟩:∃m,n=m+1:=⟨n-1,by omega⟩
 simp[blk,hm,hA]
theorem z0S {c p:Cr} (h:p∈c.kids):p.sz+(if c.isN then 1 else 0)<=c.sz:=by
 induction c with
 | nil=>simp[Cr.kids] at h
 | node f n s t g ih=>have:=ih h;simp only[Cr.sz,Cr.isN] at *;split at this<;>simp<;>omega
 | kid q r _ ih =>
  simp only[Cr.kids,List.mem_cons] at h;simp only[Cr.sz,Cr.isN];rcases h with rfl|h
  ·simp
  ·have:=ih h;simp;omega
 | bind x t q r _ ih=>have:=ih h;simp only[Cr.sz,Cr.isN];simp;omega
 | alt f n s vs q r _ ih=>have:=ih h;simp only[Cr.sz,Cr.isN];simp;omega
theorem zYY {c:Cr} {b:ByteArray×Tp×Cr} (h:b∈c.binds):b.2.2.sz+(if c.isN then 1 else 0)<=c.sz:=by
 induction c with
 | nil=>simp[Cr.binds] at h
 | node f n s t g ih=>have:=ih h;simp only[Cr.sz,Cr.isN] at *;split at this<;>simp<;>omega
 | kid q r _ ih=>have:=ih h;simp only[Cr.sz,Cr.isN];simp;omega
 | bind x t q r _ ih =>
  simp only[Cr.binds,List.mem_cons] at h;simp only[Cr.sz,Cr.isN];rcases h with rfl|h
  ·simp
  ·have:=ih h;simp;omega
 | alt f n s vs q r _ ih=>have:=ih h;simp only[Cr.sz,Cr.isN];simp;omega
theorem z03 {c:Cr} {b:(Int×Int×ByteArray)×List ByteArray×Cr} (h:b∈c.alts):b.2.2.sz+(if c.isN then 1 else 0)<=c.sz:=by
 induction c with
 | nil=>simp[Cr.alts] at h
 | node f n s t g ih=>have:=ih h;simp only[Cr.sz,Cr.isN] at *;split at this<;>simp<;>omega
 | kid q r _ ih=>have:=ih h;simp only[Cr.sz,Cr.isN];simp;omega
 | bind x t q r _ ih=>have:=ih h;simp only[Cr.sz,Cr.isN];simp;omega
 | alt f n s vs q r _ ih =>
  simp only[Cr.alts,List.mem_cons] at h;simp only[Cr.sz,Cr.isN];rcases h with rfl|h
  ·simp
  ·have:=ih h;simp;omega
inductive DC where
 | nil
 | bv (i:Nat)
 | fr (s:ByteArray)
 | node (f n:Int) (s:ByteArray) (t:Db) (g:DC)
 | kid (p r:DC)
 | bind (t:Db) (p r:DC)
 | alt (f n:Int) (s:ByteArray) (k:Nat) (p r:DC)
instance memDec (s:ByteArray) (l:List ByteArray):Decidable (s∈l):=decidable_of_iff (memb s l=true) memb_iff
def zUP (φ:Cr->Cr) (τ:Tp->Tp) (ν:ByteArray->ByteArray) (α:List ByteArray->Cr->List ByteArray×Cr):Cr->Cr
 | .kid p r => .kid (φ p) (zUP φ τ ν α r)
 | .bind x t p r => .bind (ν x) (τ t) (φ p) (zUP φ τ ν α r)
 | .alt f n s vs p r => .alt f n s (α vs p).1 (α vs p).2 (zUP φ τ ν α r)
 | c=>c
noncomputable def stF:Nat->Cr->ByteArray->Tp->Cr
 | k+1,.node f n s ty g,v,t =>
  if f=7 then
   if s=v∨v∉g.tv then .node f n s ty g
   else if s∈fvT t then .node f n (lett (ff (fvT t++g.tv))) ty (zUP (fun p=>stF k (stF k p s (.var (lett (ff (fvT t++g.tv))))) v t) id id Prod.mk g)
   else .node f n s ty (zUP (fun p=>stF k p v t) id id Prod.mk g)
  else .node f n s (sub ty [(v,t)]) (zUP (fun p=>stF k p v t) (fun u=>sub u [(v,t)]) id (fun vs p=>(vs,stF k p v t)) g)
 | _,c,_,_=>c
abbrev vr (s:ByteArray):Cr := .node 1 0 s .no .nil
section
variable {φ:Cr->Cr} {τ:Tp->Tp} {ν:ByteArray->ByteArray} {α:List ByteArray->Cr->List ByteArray×Cr}
end
theorem Cr.Ok.kid {c p:Cr} (h:c.Ok) (hp:p∈c.kids):p.isN=true/\p.Ok:=by
 induction c with
 | nil=>cases hp
 | node f n s t g ih=>exact ih h.2.2.2.2.2.2.2 hp
 | kid q r _ ih =>
  simp only[Cr.kids,List.mem_cons] at hp;rcases hp with rfl|hp
  ·exact⟨h.1,h.2.2.1⟩
  ·exact ih h.2.2.2 hp
 | bind x t q r _ ih=>exact ih h.2.2.2.2 hp
 | alt f n s vs q r _ ih=>exact ih h.2.2.2.2.2.2 hp
theorem Cr.Ok.bind {c:Cr} {b:ByteArray×Tp×Cr} (h:c.Ok) (hp:b∈c.binds):b.2.2.isN=true/\b.2.2.Ok:=by
 induction c with
 | nil=>cases hp
 | node f n s t g ih=>exact ih h.2.2.2.2.2.2.2 hp
 | kid q r _ ih=>exact ih h.2.2.2 hp
 | bind x t q r _ ih =>
  simp only[Cr.binds,List.mem_cons] at hp;rcases hp with rfl|hp
  ·exact⟨h.1,h.2.2.2.1⟩
  ·exact ih h.2.2.2.2 hp
 | alt f n s vs q r _ ih=>exact ih h.2.2.2.2.2.2 hp
theorem Cr.Ok.alt {c:Cr} {a:(Int×Int×ByteArray)×List ByteArray×Cr} (h:c.Ok) (hp:a∈c.alts):a.2.2.isN=true/\a.2.2.Ok/\a.2.1.Nodup:=by
 induction c with
 | nil=>cases hp
 | node f n s t g ih=>exact ih h.2.2.2.2.2.2.2 hp
 | kid q r _ ih=>exact ih h.2.2.2 hp
 | bind x t q r _ ih=>exact ih h.2.2.2.2 hp
 | alt f n s vs q r _ ih =>
  simp only[Cr.alts,List.mem_cons] at hp;rcases hp with rfl|hp
  ·exact⟨h.1,h.2.2.2.2.2.1,h.2.2.2.2.1⟩
  ·exact ih h.2.2.2.2.2.2 hp
theorem zXP {f n:Int} {s:ByteArray} {t:Tp} {g:Cr} (h:(Cr.node f n s t g).Ok):g.isN=false/\g.Ok:=⟨h.1,h.2.2.2.2.2.2.2⟩
theorem zL2 (t:Tp):sub t []=t:=by
 induction t with
 | all s a ih=>simp[sub,kept,caught,memb,ih]
 | app a b iha ihb=>simp only[sub,iha,ihb]
 | var s=>simp[sub,look]
 | _=>rfl
section
variable {φ:Cr->Cr} {τ:Tp->Tp} {ν:ByteArray->ByteArray} {α:List ByteArray->Cr->List ByteArray×Cr}
end
noncomputable def st (c:Cr) (v:ByteArray) (t:Tp):Cr:=stF c.sz c v t
end Go.Proofs.YtdmbahepaglcbaaGreatDoor
