/- Core whose memory is known: a node with blocks of its own for its kids, its binds, its alternatives and their names. No condition. -/
import Derived.Test.YtebmimnglcdogaaGreatDoorN
import Derived.Test.YtebmimnglcdogaaGreatDoorFpM
set_option linter.unusedSimpArgs false
set_option linter.unusedVariables false
namespace Go.Proofs.YtebmimnglcdogaaGreatDoor.Ck
open Go Fp
set_option maxRecDepth 10000
set_option maxHeartbeats 1000000
set_option linter.unusedVariables false
set_option linter.unusedSimpArgs false
abbrev Bdg:=ByteArray×Tp×Cr
abbrev Alg:=(Int×Int×ByteArray)×List ByteArray×Cr
structure VA where
 A:Option Addr
 cap:Nat
 z:List AV
structure Ad where
 b0:Nat
 k:VA
 b:VA
 a:VA
 vs:List VA
structure Nd where
 f:Int
 n:Int
 s:ByteArray
 t:Tp
 ks:List Cr
 bs:List Bdg
 ls:List Alg
def lst (ks:List Cr) (bs:List Bdg) (ls:List Alg):Cr:=ks.foldr .kid (bs.foldr (fun b r => .bind b.1 b.2.1 b.2.2 r) (ls.foldr (fun a r => .alt a.1.1 a.1.2.1 a.1.2.2 a.2.1 a.2.2 r) .nil))
def Nd.cr (x:Nd):Cr := .node x.f x.n x.s x.t (lst x.ks x.bs x.ls)
def jW (c:Cr):Nd:=⟨c.f,c.n,c.s,c.t,c.kids,c.binds,c.alts⟩
theorem zWA (ks:List Cr) (bs:List Bdg) (ls:List Alg):(lst ks bs ls).kids=ks/\(lst ks bs ls).binds=bs/\(lst ks bs ls).alts=ls/\(lst ks bs ls).isN=false:=by
 induction ks with
 | cons p ks ih=>obtain⟨h1,h2,h3,_⟩:=ih;exact⟨congrArg (p :: ·) h1,h2,h3,rfl⟩
 | nil =>
  induction bs with
  | cons b bs ih=>obtain⟨h1,h2,h3,_⟩:=ih;exact⟨h1,congrArg (b :: ·) h2,h3,rfl⟩
  | nil =>
   induction ls with
   | cons a ls ih=>obtain⟨h1,h2,h3,_⟩:=ih;exact⟨h1,h2,congrArg (a :: ·) h3,rfl⟩
   | nil=>exact⟨rfl,rfl,rfl,rfl⟩
theorem zZD (g:Cr) (h:g.isN=false) (ho:g.Ok):lst g.kids g.binds g.alts=g:=by
 induction g with
 | nil=>rfl
 | node=>cases h
 | kid p r _ ih=>exact congrArg (Cr.kid p) (ih ho.2.1 ho.2.2.2)
 | bind x t p r _ ih =>
  have:=ih ho.2.1 ho.2.2.2.2;rw[ho.2.2.1] at this;show lst r.kids ((x,t,p)::r.binds) r.alts=_;rw[ho.2.2.1];exact congrArg (Cr.bind x t p) this
 | alt f n s vs p r _ ih =>
  have:=ih ho.2.1 ho.2.2.2.2.2.2;rw[ho.2.2.1,ho.2.2.2.1] at this;show lst r.kids r.binds (((f,n,s),vs,p)::r.alts)=_;rw[ho.2.2.1,ho.2.2.2.1];exact congrArg (Cr.alt f n s vs p) this
theorem z5H {c:Cr} (h:c.isN=true) (ho:c.Ok):(jW c).cr=c:=by
 cases c with
 | node f n s t g=>show Cr.node f n s t (lst g.kids g.binds g.alts)=_;rw[zZD g ho.1 ho.2.2.2.2.2.2.2]
 | _=>cases h
theorem z5B (x:Nd):x.cr.e3 0=eCs x.ks/\x.cr.e3 1=xB x.bs/\x.cr.e3 2=zA4 x.ls:=by
 obtain⟨h1,h2,h3,_⟩:=zWA x.ks x.bs x.ls;exact⟨by rw[z0N];exact congrArg eCs h1,by rw[z0G];exact congrArg xB h2,by rw[z16];exact congrArg zA4 h3⟩
abbrev slA (v:VA) (n:Nat):AV := .lit (.slice v.A n v.cap)
def blk (v:VA) (n:Nat) (l:List AV):List (Nat×HO):=match n,v.A with
 | _+1,some a=>[(a.block,HO.cells l)]
 | _,_=>[]
def VA.no (v:VA):Nat:=match v.A with|some a=>a.block|none=>0
structure VAok (v:VA) (n:Nat):Prop where
 n0:n=0->Sl0 v.A v.cap
 pos:0<n->∃b,v.A=some ⟨b,0,none⟩/\n<=v.cap
theorem zYS {v:VA} {l:List AV}:blk v 0 l=[]:=by unfold blk;split<;>simp_all
theorem zC6 {v:VA} {n:Nat} {l:List AV} (h:VAok v n) (hn:0<n):blk v n l=[(v.no,HO.cells l)]:=by
 obtain⟨b,hb,_⟩:=h.pos hn;obtain⟨m,rfl⟩:∃m,n=m+1:=⟨n-1,by omega⟩
 simp[blk,VA.no,hb]
theorem VAok.at {v:VA} {n:Nat} (h:VAok v n) (hn:0<n):v.A=some ⟨v.no,0,none⟩:=by
 obtain⟨b,hb,_⟩:=h.pos hn;simp[VA.no,hb]
def zAG (ad:Ad) (x:Nd):List AV:=[.lit (.int .i64 x.f),.lit (.int .i64 x.n),.lit (.string x.s),.lit (.int .i64 x.t.form),.lit (.int .i64 x.t.num),.lit (.string x.t.nam),.sl x.t.eArgs,slA ad.k x.ks.length,slA ad.b x.bs.length,slA ad.a x.ls.length]
def zSD (a:Alg) (v:VA):AV := .agg [.lit (.int .i64 a.1.1),.lit (.int .i64 a.1.2.1),.lit (.string a.1.2.2),slA v a.2.1.length,.lit (.int .i64 a.2.2.f),.lit (.int .i64 a.2.2.n),.lit (.string a.2.2.s),.lit (.int .i64 a.2.2.t.form),.lit (.int .i64 a.2.2.t.num),.lit (.string a.2.2.t.nam),.sl a.2.2.t.eArgs,.sl (a.2.2.e3 0),.sl (a.2.2.e3 1),.sl (a.2.2.e3 2)]
def xX (ls:List Alg) (vs:List VA):List AV:=List.zipWith zSD ls vs
def hV (ls:List Alg) (vs:List VA):List (Nat×HO):=(List.zipWith (fun (a:Alg) (v:VA)=>blk v a.2.1.length (flR (eSs a.2.1) v.z)) ls vs).flatten
def hM (ad:Ad) (x:Nd):List (Nat×HO):=blk ad.k x.ks.length (flR (eCs x.ks) ad.k.z)++(blk ad.b x.bs.length (flR (xB x.bs) ad.b.z)++(blk ad.a x.ls.length (flR (xX x.ls ad.vs) ad.a.z)++hV x.ls ad.vs))
def HP (ad:Ad) (x:Nd):List (Nat×HO):=hM ad x++[(ad.b0,HO.cells (zAG ad x))]
structure AdOk (ad:Ad) (x:Nd):Prop where
 k:VAok ad.k x.ks.length
 b:VAok ad.b x.bs.length
 a:VAok ad.a x.ls.length
 len:ad.vs.length=x.ls.length
 vs:∀(i:Nat) (a:Alg) (v:VA),x.ls[i]? = some a->ad.vs[i]? = some v->VAok v a.2.1.length
theorem zVI (l:List Cr):Uni 10 (eCs l):=fun a ha=>by obtain⟨x,_,rfl⟩:=List.mem_map.1 ha;rfl
theorem zHQ (l:List Bdg):Uni 15 (xB l):=fun a ha=>by obtain⟨x,_,rfl⟩:=List.mem_map.1 ha;rfl
theorem zYA (l:List Alg):Uni 14 (zA4 l):=fun a ha=>by obtain⟨x,_,rfl⟩:=List.mem_map.1 ha;rfl
theorem zG8 (ls:List Alg) (vs:List VA):Uni 14 (xX ls vs):=by
 induction ls generalizing vs with
 | nil=>intro a ha;simp[xX] at ha
 | cons a ls ih =>
  cases vs with
  | nil=>intro a ha;simp[xX] at ha
  | cons v vs =>
   intro x hx;simp only[xX,List.zipWith_cons_cons,List.mem_cons] at hx;rcases hx with rfl|hx
   ·rfl
   ·exact ih vs x hx
theorem z6M {l:List Cr} {k:Nat} (h:k<l.length):(eCs l)[k]? = some (eC l[k]):=by simp[eCs,h]
theorem zTN {l:List Bdg} {k:Nat} (h:k<l.length):(xB l)[k]? = some (eBd l[k]):=by simp[xB,h]
theorem z2N {l:List Alg} {k:Nat} (h:k<l.length):(zA4 l)[k]? = some (eAl l[k]):=by simp[zA4,h]
set_option maxHeartbeats 4000000
def zE2 (l:List AV) (r:AV) (o:Nat) (h:List (Nat×HO)):Prop:=o=0/\∃v:VA,VAok v l.length/\r=slA v l.length/\h=blk v l.length (flR l v.z)
theorem zFI (A:Option Addr) (cap:Nat) (h:Sl0 A cap):zE2 [] (.lit (.slice A 0 cap)) 0 []:=⟨rfl,⟨A,cap,[]⟩,⟨fun _=>h,fun h=>absurd h (by decide)⟩,rfl,(zYS (v:=⟨A,cap,[]⟩)).symm⟩
theorem zF1 {l:List AV} (hl:0<l.length) {b cap:Nat} (hc:l.length<=cap) (zs:List AV):zE2 l (.lit (.slice (some ⟨b,0,none⟩) l.length cap)) 0 [(b,HO.cells (flR l zs))] :=
 ⟨rfl,⟨some ⟨b,0,none⟩,cap,zs⟩,⟨fun h=>absurd h (by omega),fun _=>⟨b,rfl,hc⟩⟩,rfl,by
  obtain⟨m,hm⟩:∃m,l.length=m+1:=⟨l.length-1,by omega⟩
  simp[blk,hm]⟩
theorem zRF (l:List AV) (hu:Uni 1 l) (hl:l.length<=1000000):zB Tryz.prog 90 [.sl l] (.sl l):=by
 refine zA ttok mixed Tryz.func90 rfl (by rfl) (Nat.le_of_ble_eq_true rfl) (by kernel_rfl) ?_;cases l with
 | nil=>exact⟨rfl,by simp,by simp[Uni],hu,rfl⟩
 | cons x l=>exact⟨by show 0+(x::l).length<=_;omega,by simp[Uni],hu,rfl⟩
theorem zWD (l:List AV) (hu:Uni 1 l) (hl:l.length<=1000000):CallsG Tryz.prog (fnv 90) [] [.sl l] [] (zE2 l):=by
 cases l with
 | nil=>exact (zRF [] hu hl).lit0 zFI
 | cons x l =>
  refine xC (first:=[]) (cap:=[]) ttok mixed Tryz.func90 rfl (by rfl) rfl (Nat.le_of_ble_eq_true rfl) (by kernel_rfl) ?_;refine Wsem.seq ttok mixed ?_;refine Wsem.seq ttok mixed ?_;refine Wsem.seqS (Wsem.regionB ttok rfl rfl rfl rfl rfl fun b=>?_);refine⟨rfl,by simp,by show 0+(x::l).length<=_;omega,hu,?_⟩;refine⟨0,[],rfl,Nat.le_refl _,rfl,fun b' cap' zs h1 h2=>?_⟩;refine Wsem.of ttok mixed ?_;have:=zF1 (l:=x::l) (by simp) (b:=b') (cap:=cap') (by omega) zs;rw[show (x::l).length=0+(x::l).length by omega] at this;exact this
theorem zR0 (l:List AV) (hu:Uni 10 l) (hl:l.length<=1000000):zB Tryz.prog 88 [.sl l] (.sl l):=by
 refine zA ttok mixed Tryz.func88 rfl (by rfl) (Nat.le_of_ble_eq_true rfl) (by kernel_rfl) ?_;cases l with
 | nil=>exact⟨rfl,by simp,by simp[Uni],hu,rfl⟩
 | cons x l=>exact⟨by show 0+(x::l).length<=_;omega,by simp[Uni],hu,rfl⟩
theorem zVO (l:List AV) (hu:Uni 10 l) (hl:l.length<=1000000):CallsG Tryz.prog (fnv 88) [] [.sl l] [] (zE2 l):=by
 cases l with
 | nil=>exact (zR0 [] hu hl).lit0 zFI
 | cons x l =>
  refine xC (first:=[]) (cap:=[]) ttok mixed Tryz.func88 rfl (by rfl) rfl (Nat.le_of_ble_eq_true rfl) (by kernel_rfl) ?_;refine Wsem.seq ttok mixed ?_;refine Wsem.seq ttok mixed ?_;refine Wsem.seqS (Wsem.regionB ttok rfl rfl rfl rfl rfl fun b=>?_);refine⟨rfl,by simp,by show 0+(x::l).length<=_;omega,hu,?_⟩;refine⟨0,[],rfl,Nat.le_refl _,rfl,fun b' cap' zs h1 h2=>?_⟩;refine Wsem.of ttok mixed ?_;have:=zF1 (l:=x::l) (by simp) (b:=b') (cap:=cap') (by omega) zs;rw[show (x::l).length=0+(x::l).length by omega] at this;exact this
theorem zQ4 (l:List AV) (hu:Uni 15 l) (hl:l.length<=1000000):zB Tryz.prog 33 [.sl l] (.sl l):=by
 refine zA ttok mixed Tryz.func33 rfl (by rfl) (Nat.le_of_ble_eq_true rfl) (by kernel_rfl) ?_;cases l with
 | nil=>exact⟨rfl,by simp,by simp[Uni],hu,rfl⟩
 | cons x l=>exact⟨by show 0+(x::l).length<=_;omega,by simp[Uni],hu,rfl⟩
theorem zWS (l:List AV) (hu:Uni 15 l) (hl:l.length<=1000000):CallsG Tryz.prog (fnv 33) [] [.sl l] [] (zE2 l):=by
 cases l with
 | nil=>exact (zQ4 [] hu hl).lit0 zFI
 | cons x l =>
  refine xC (first:=[]) (cap:=[]) ttok mixed Tryz.func33 rfl (by rfl) rfl (Nat.le_of_ble_eq_true rfl) (by kernel_rfl) ?_;refine Wsem.seq ttok mixed ?_;refine Wsem.seq ttok mixed ?_;refine Wsem.seqS (Wsem.regionB ttok rfl rfl rfl rfl rfl fun b=>?_);refine⟨rfl,by simp,by show 0+(x::l).length<=_;omega,hu,?_⟩;refine⟨0,[],rfl,Nat.le_refl _,rfl,fun b' cap' zs h1 h2=>?_⟩;refine Wsem.of ttok mixed ?_;have:=zF1 (l:=x::l) (by simp) (b:=b') (cap:=cap') (by omega) zs;rw[show (x::l).length=0+(x::l).length by omega] at this;exact this
theorem zSY (l:List AV) (hu:Uni 14 l) (hl:l.length<=1000000):zB Tryz.prog 89 [.sl l] (.sl l):=by
 refine zA ttok mixed Tryz.func89 rfl (by rfl) (Nat.le_of_ble_eq_true rfl) (by kernel_rfl) ?_;cases l with
 | nil=>exact⟨rfl,by simp,by simp[Uni],hu,rfl⟩
 | cons x l=>exact⟨by show 0+(x::l).length<=_;omega,by simp[Uni],hu,rfl⟩
theorem zVF (l:List AV) (hu:Uni 14 l) (hl:l.length<=1000000):CallsG Tryz.prog (fnv 89) [] [.sl l] [] (zE2 l):=by
 cases l with
 | nil=>exact (zSY [] hu hl).lit0 zFI
 | cons x l =>
  refine xC (first:=[]) (cap:=[]) ttok mixed Tryz.func89 rfl (by rfl) rfl (Nat.le_of_ble_eq_true rfl) (by kernel_rfl) ?_;refine Wsem.seq ttok mixed ?_;refine Wsem.seq ttok mixed ?_;refine Wsem.seqS (Wsem.regionB ttok rfl rfl rfl rfl rfl fun b=>?_);refine⟨rfl,by simp,by show 0+(x::l).length<=_;omega,hu,?_⟩;refine⟨0,[],rfl,Nat.le_refl _,rfl,fun b' cap' zs h1 h2=>?_⟩;refine Wsem.of ttok mixed ?_;have:=zF1 (l:=x::l) (by simp) (b:=b') (cap:=cap') (by omega) zs;rw[show (x::l).length=0+(x::l).length by omega] at this;exact this
set_option maxHeartbeats 8000000
abbrev sv (n:Int):SV := .v (.lit (.int .i64 n))
theorem svc {a b:Int} (h:a=b):sv a=sv b:=by rw[h]
theorem zZM (c:Cr):(c.e3 0).length=c.kids.length:=by rw[z0N];simp[eCs]
theorem z6S (c:Cr):(c.e3 1).length=c.binds.length:=by rw[z0G];simp[xB]
theorem z3S {α:Type} (f:α->AV) (hf:∀x,(f x).cells.length=1) (l:List α):Uni 1 (l.map f):=fun a ha=>by obtain⟨x,_,rfl⟩:=List.mem_map.1 ha;exact hf x
theorem zE3 {n:Nat} {l m:List AV} (h1:Uni n l) (h2:Uni n m):Uni n (l++m):=fun a ha=>by rcases List.mem_append.1 ha with h|h;exact h1 a h;exact h2 a h
def Grown (v:VA) (k:Nat):Prop:=(k=0/\v.A=none/\v.cap=0)∨(0<k/\∃b,v.A=some ⟨b,0,none⟩/\k<=v.cap/\v.z.length=v.cap-k)
theorem Grown.frz {v:VA} {l:List AV} (h:Grown v l.length) (hu:Uni 1 l) (hc:∀x∈l,∀c∈x.cells,c.isCell=true) (hp:List (Nat×HO)) (hin:∀x∈blk v l.length (flR l v.z),x∈hp):Frz hp (slA v l.length) (.sl l):=by
 rcases h with⟨h0,hA,hcap⟩|⟨h0,b,hA,hcap,hz⟩
 ·have:l=[]:=List.length_eq_zero_iff.1 h0;subst this;unfold slA;rw[hA,hcap];exact .nilL
 ·unfold slA;rw[hA];refine .sl b 0 l.length v.cap 1 (flR l v.z) l ?_ rfl hcap hu hc (by rw[zDW hu];omega) fun i x j c c' hx hj hc'=>?_
  ·obtain⟨m,hm⟩:∃m,l.length=m+1:=⟨l.length-1,by omega⟩
   refine hin _ ?_;simp[blk,hm,hA]
  ·have hi:=(List.getElem?_eq_some_iff.1 hx).1;have hj1:=(List.getElem?_eq_some_iff.1 hj).1;rw[hu x (List.mem_of_getElem? hx)] at hj1;rw[Nat.zero_add,zID hu v.z hi j hj1] at hc';rw[List.getElem?_eq_getElem hi] at hx;injection hx with hx;subst hx
   rw[hj] at hc';injection hc' with hc';subst hc'
   exact .refl _
abbrev eG0 (nm:AV) (pt:List AV):AV := .agg [nm,.sl pt]
theorem z4J {nl z zs:List AV} {x:AV} {n:Nat} (hn:nl.length=n) (hu:Uni 1 nl) (hx:x.cells.length=1):((flR nl z).drop 0).take (n*1)++([x].flatMap AV.cells++zs)=flR (nl++[x]) zs:=by
 have h1:(flR nl z).take n=nl.flatMap AV.cells:=by
  unfold flR;have:(nl.flatMap AV.cells).length=n:=by have:=zDW hu [];unfold flR at this;rw[List.append_nil] at this;simp only[List.length_nil] at this;omega
  rw[List.take_append_of_le_length (by omega),List.take_of_length_le (by omega)]
 rw[List.drop_zero,Nat.mul_one,h1];simp[flR]
theorem z5P {nl z:List AV} {x:AV} {n:Nat} (hn:nl.length=n) (hu:Uni 1 nl) (hx:x.cells.length=1) (hz:1<=z.length):setAt (flR nl z) (0+n*1) ([x].flatMap AV.cells)=flR (nl++[x]) (z.drop 1):=by
 have hl:(nl.flatMap AV.cells).length=n:=by have:=zDW hu [];unfold flR at this;rw[List.append_nil] at this;simp only[List.length_nil] at this;omega
 unfold flR;have e:0+n*1=(nl.flatMap AV.cells).length+0:=by omega
 rw[e,zGZ];simp[setAt,hx]
abbrev sn4 (q:Code):Code:=zBI (zBI (zBI (zBI q)))
theorem hcut {k n:Nat} (h1:k<n) (h2:n<=1000000):IntKind.i64.wrap ((k:Int)+1)=((k+1:Nat):Int):=wrap_succ (by omega)
theorem z19 {v:VA} {n:Nat} {l:List AV} (hA:v.A=none):blk v n l=[]:=by unfold blk;rw[hA];cases n<;>rfl
theorem zG0 {v:VA} {n:Nat} {l:List AV} {b:Nat} (h:0<n) (hA:v.A=some ⟨b,0,none⟩):blk v n l=[(b,HO.cells l)]:=by
 obtain⟨m,hm⟩:∃m,n=m+1:=⟨n-1,by omega⟩
 simp[blk,hm,hA]
theorem zYX {c p:Cr} (h:p∈c.kids):p.sz+(if c.isN then 1 else 0)<=c.sz:=by
 induction c with
 | nil=>simp[Cr.kids] at h
 | node f n s t g ih=>have:=ih h;simp only[Cr.sz,Cr.isN] at *;split at this<;>simp<;>omega
 | kid q r _ ih =>
  simp only[Cr.kids,List.mem_cons] at h;simp only[Cr.sz,Cr.isN];rcases h with rfl|h
  ·simp
  ·have:=ih h;simp;omega
 | bind x t q r _ ih=>have:=ih h;simp only[Cr.sz,Cr.isN];simp;omega
 | alt f n s vs q r _ ih=>have:=ih h;simp only[Cr.sz,Cr.isN];simp;omega
theorem z1M {c:Cr} {b:ByteArray×Tp×Cr} (h:b∈c.binds):b.2.2.sz+(if c.isN then 1 else 0)<=c.sz:=by
 induction c with
 | nil=>simp[Cr.binds] at h
 | node f n s t g ih=>have:=ih h;simp only[Cr.sz,Cr.isN] at *;split at this<;>simp<;>omega
 | kid q r _ ih=>have:=ih h;simp only[Cr.sz,Cr.isN];simp;omega
 | bind x t q r _ ih =>
  simp only[Cr.binds,List.mem_cons] at h;simp only[Cr.sz,Cr.isN];rcases h with rfl|h
  ·simp
  ·have:=ih h;simp;omega
 | alt f n s vs q r _ ih=>have:=ih h;simp only[Cr.sz,Cr.isN];simp;omega
theorem z4B {c:Cr} {b:(Int×Int×ByteArray)×List ByteArray×Cr} (h:b∈c.alts):b.2.2.sz+(if c.isN then 1 else 0)<=c.sz:=by
 induction c with
 | nil=>simp[Cr.alts] at h
 | node f n s t g ih=>have:=ih h;simp only[Cr.sz,Cr.isN] at *;split at this<;>simp<;>omega
 | kid q r _ ih=>have:=ih h;simp only[Cr.sz,Cr.isN];simp;omega
 | bind x t q r _ ih=>have:=ih h;simp only[Cr.sz,Cr.isN];simp;omega
 | alt f n s vs q r _ ih =>
  simp only[Cr.alts,List.mem_cons] at h;simp only[Cr.sz,Cr.isN];rcases h with rfl|h
  ·simp
  ·have:=ih h;simp;omega
instance memDec (s:ByteArray) (l:List ByteArray):Decidable (s∈l):=decidable_of_iff (memb s l=true) memb_iff
def zWI (φ:Cr->Cr) (τ:Tp->Tp) (ν:ByteArray->ByteArray) (α:List ByteArray->Cr->List ByteArray×Cr):Cr->Cr
 | .kid p r => .kid (φ p) (zWI φ τ ν α r)
 | .bind x t p r => .bind (ν x) (τ t) (φ p) (zWI φ τ ν α r)
 | .alt f n s vs p r => .alt f n s (α vs p).1 (α vs p).2 (zWI φ τ ν α r)
 | c=>c
noncomputable def stF:Nat->Cr->ByteArray->Tp->Cr
 | k+1,.node f n s ty g,v,t =>
  if f=7 then
   if s=v∨v∉g.tv then .node f n s ty g
   else if s∈fvT t then .node f n (lett (ff (fvT t++g.tv))) ty (zWI (fun p=>stF k (stF k p s (.var (lett (ff (fvT t++g.tv))))) v t) id id Prod.mk g)
   else .node f n s ty (zWI (fun p=>stF k p v t) id id Prod.mk g)
  else .node f n s (sub ty [(v,t)]) (zWI (fun p=>stF k p v t) (fun u=>sub u [(v,t)]) id (fun vs p=>(vs,stF k p v t)) g)
 | _,c,_,_=>c
section
variable {φ:Cr->Cr} {τ:Tp->Tp} {ν:ByteArray->ByteArray} {α:List ByteArray->Cr->List ByteArray×Cr}
end
theorem Cr.Ok.kid {c p:Cr} (h:c.Ok) (hp:p∈c.kids):p.isN=true/\p.Ok:=by
 induction c with
 | nil=>cases hp
 | node f n s t g ih=>exact ih h.2.2.2.2.2.2.2 hp
 | kid q r _ ih =>
  simp only[Cr.kids,List.mem_cons] at hp;rcases hp with rfl|hp
  ·exact⟨h.1,h.2.2.1⟩
  ·exact ih h.2.2.2 hp
 | bind x t q r _ ih=>exact ih h.2.2.2.2 hp
 | alt f n s vs q r _ ih=>exact ih h.2.2.2.2.2.2 hp
theorem Cr.Ok.bind {c:Cr} {b:ByteArray×Tp×Cr} (h:c.Ok) (hp:b∈c.binds):b.2.2.isN=true/\b.2.2.Ok:=by
 induction c with
 | nil=>cases hp
 | node f n s t g ih=>exact ih h.2.2.2.2.2.2.2 hp
 | kid q r _ ih=>exact ih h.2.2.2 hp
 | bind x t q r _ ih =>
  simp only[Cr.binds,List.mem_cons] at hp;rcases hp with rfl|hp
  ·exact⟨h.1,h.2.2.2.1⟩
  ·exact ih h.2.2.2.2 hp
 | alt f n s vs q r _ ih=>exact ih h.2.2.2.2.2.2 hp
theorem Cr.Ok.alt {c:Cr} {a:(Int×Int×ByteArray)×List ByteArray×Cr} (h:c.Ok) (hp:a∈c.alts):a.2.2.isN=true/\a.2.2.Ok/\a.2.1.Nodup:=by
 induction c with
 | nil=>cases hp
 | node f n s t g ih=>exact ih h.2.2.2.2.2.2.2 hp
 | kid q r _ ih=>exact ih h.2.2.2 hp
 | bind x t q r _ ih=>exact ih h.2.2.2.2 hp
 | alt f n s vs q r _ ih =>
  simp only[Cr.alts,List.mem_cons] at hp;rcases hp with rfl|hp
  ·exact⟨h.1,h.2.2.2.2.2.1,h.2.2.2.2.1⟩
  ·exact ih h.2.2.2.2.2.2 hp
theorem zT2 (t:Tp):sub t []=t:=by
 induction t with
 | all s a ih=>simp[sub,kept,caught,memb,ih]
 | app a b iha ihb=>simp only[sub,iha,ihb]
 | var s=>simp[sub,look]
 | _=>rfl
section
variable {φ:Cr->Cr} {τ:Tp->Tp} {ν:ByteArray->ByteArray} {α:List ByteArray->Cr->List ByteArray×Cr}
end
noncomputable def st (c:Cr) (v:ByteArray) (t:Tp):Cr:=stF c.sz c v t
theorem z3R (l:List ByteArray):(eSs l).length=l.length:=by simp[eSs]
theorem zHY {α:Type} (l:List α) (g:α->Bool):∃i:Int,((∃k:Nat,i=k/\∃h:k<l.length,g l[k]=true/\∀j (hj:j<l.length),j<k->g l[j]=false)∨(i = -1/\∀x∈l,g x=false))/\decide (0<=i)=l.any g:=by
 induction l with
 | nil=>exact⟨-1,.inr ⟨rfl,by simp⟩,rfl⟩
 | cons x l ih =>
  cases hx:g x with
  | true=>exact⟨0,.inl ⟨0,rfl,by simp,hx,fun j hj h=>by omega⟩,by simp[hx]⟩
  | false =>
   obtain⟨i,h1,h2⟩:=ih;rcases h1 with⟨k,rfl,h,hk,hj⟩|⟨rfl,h1⟩
   ·refine⟨((k+1:Nat):Int),.inl ⟨k+1,rfl,by simp;omega,by simpa using hk,fun j hjl hjk=>?_⟩,?_⟩
    ·match j with
     | 0=>exact hx
     | j+1=>simpa using hj j (by simpa using hjl) (by omega)
    ·rw[List.any_cons,hx,Bool.false_or,<-h2];simp;omega
   ·refine⟨-1,.inr ⟨rfl,fun y hy=>?_⟩,by rw[List.any_cons,hx,Bool.false_or,<-h2]⟩;rcases List.mem_cons.1 hy with rfl|hy
    ·exact hx
    ·exact h1 y hy
def Cr.Few:Cr->Prop
 | .nil=>True
 | .node _ _ _ _ g=>g.Few
 | .kid p r=>p.Few/\r.Few
 | .bind _ _ p r=>p.Few/\r.Few
 | .alt _ _ _ vs p r=>vs.length<=10000/\p.Few/\r.Few
theorem Cr.Few.kid {c p:Cr} (h:c.Few) (hp:p∈c.kids):p.Few:=by
 induction c with
 | nil=>cases hp
 | node f n s t g ih=>exact ih h hp
 | kid q r _ ih=>rcases List.mem_cons.1 hp with rfl|hp;exact h.1;exact ih h.2 hp
 | bind x t q r _ ih=>exact ih h.2 hp
 | alt f n s vs q r _ ih=>exact ih h.2.2 hp
theorem Cr.Few.bind {c:Cr} {b:Bdg} (h:c.Few) (hp:b∈c.binds):b.2.2.Few:=by
 induction c with
 | nil=>cases hp
 | node f n s t g ih=>exact ih h hp
 | kid q r _ ih=>exact ih h.2 hp
 | bind x t q r _ ih=>rcases List.mem_cons.1 hp with rfl|hp;exact h.1;exact ih h.2 hp
 | alt f n s vs q r _ ih=>exact ih h.2.2 hp
theorem Cr.Few.alt {c:Cr} {a:Alg} (h:c.Few) (hp:a∈c.alts):a.2.2.Few/\a.2.1.length<=10000:=by
 induction c with
 | nil=>cases hp
 | node f n s t g ih=>exact ih h hp
 | kid q r _ ih=>exact ih h.2 hp
 | bind x t q r _ ih=>exact ih h.2 hp
 | alt f n s vs q r _ ih=>rcases List.mem_cons.1 hp with rfl|hp;exact⟨h.2.1,h.1⟩;exact ih h.2.2 hp
theorem z06 {c:Cr} (h:c.isN=true):0<c.sz:=by cases c<;>first|(cases h;done)|(simp[Cr.sz];omega)
theorem jC {α β:Type} (F:α->List β) {l:List α} {k:Nat} (h:k<l.length):(l.take (k+1)).flatMap F=(l.take k).flatMap F++F l[k]:=by
 rw[List.take_succ_eq_append_getElem h,List.flatMap_append];simp
end Go.Proofs.YtebmimnglcdogaaGreatDoor.Ck
