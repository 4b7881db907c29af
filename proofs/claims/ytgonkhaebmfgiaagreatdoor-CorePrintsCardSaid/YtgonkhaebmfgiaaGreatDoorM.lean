/- The maker's core: Case. No condition but that the numbers are such. -/
import Derived.Test.YtgonkhaebmfgiaaGreatDoorL
set_option linter.unusedSimpArgs false
set_option linter.unusedVariables false
namespace Go.Proofs.YtgonkhaebmfgiaaGreatDoor
open Go Fp
set_option maxRecDepth 10000
set_option maxHeartbeats 8000000
set_option linter.unusedVariables false
def zC1 (t:Tp) (ls:List Alg) (p:Cr):AV := .agg [.lit (.int .i64 9),.lit (.int .i64 0),.lit (.string ByteArray.empty),.lit (.int .i64 t.form),.lit (.int .i64 t.num),.lit (.string t.nam),.sl t.eArgs,.sl [eC p],.sl [],.sl (xO ls)]
open Classical in
noncomputable def cnF (n:Nat):ByteArray:=if h:InR (n:Int) then (zCN h).choose else .empty
theorem zQD {n:Nat} (h:n<100000):zF Tryz.prog 96 [.lit (.int .i64 (n:Nat))] (str (cnF n)):=by
 have hr:InR (n:Int):=by unfold InR;omega
 unfold cnF;rw[dif_pos hr];exact (zCN hr).choose_spec.2
theorem z2E {n:Nat} (h:n<100000):cnF n∈cn18:=by
 have hr:InR (n:Int):=by unfold InR;omega
 unfold cnF;rw[dif_pos hr];exact (zCN hr).choose_spec.1
noncomputable def hdF (r k:Nat) (vs:List ByteArray):(Int×Int×ByteArray)×List ByteArray:=if k=1 then ((2,IntKind.i64.wrap ((r:Int).tdiv 14),.empty),[]) else if k=2 then ((3,0,.empty),[]) else ((1,0,cnF (r / 14+k)),vs)
theorem zZ4 (b:Nat) (l:List Int) (n:Int) (r d:Nat) (hr:r<1000) (hd:d<1000) {t:Tp} {p:Cr} {l0:List Int} (ht:zFO b l n 1 t l0)
  (st:Nat->List Alg×List Int×Int) (h0:(st 0).1=[]/\qW b l0 n (d+1) p (st 0).2.1 (st 0).2.2)
  (hst:∀k (hk:k<r / 14 % 4),∃vs q lm,CallsG Tryz.prog (fnv 98) (mkH b (st k).2.1 (st k).2.2) [pt b 0] [] (fun r o h=>r = .sl (eSs vs)/\o=0/\h=mkH b lm (st k).2.2)/\qW b lm (st k).2.2 (d+1) q (st (k+1)).2.1 (st (k+1)).2.2/\(st (k+1)).1=(st k).1++[((hdF r k vs).1,(hdF r k vs).2,q)])
  (hlen:∀k,k<=r / 14 % 4->(st k).1.length=k):wH b l n r d 11 (.node 9 0 .empty t (lst [p] [] (st (r / 14 % 4)).1)) (st (r / 14 % 4)).2.1 (st (r / 14 % 4)).2.2:=by
 unfold wH;refine Wsem.of ttok mixed ?_;refine⟨fun h=>absurd h (by decide),fun _=>?_⟩;refine⟨fun h=>absurd h (by decide),fun _=>?_⟩;refine⟨fun h=>absurd h (by decide),fun _=>?_⟩;refine⟨fun h=>absurd h (by decide),fun _=>?_⟩;refine⟨fun h=>absurd h (by decide),fun _=>?_⟩;refine⟨fun h=>absurd h (by decide),fun _=>?_⟩;refine⟨fun h=>absurd h (by decide),fun _=>?_⟩;refine⟨fun h=>absurd h (by decide),fun _=>?_⟩;refine⟨fun h=>absurd h (by decide),fun _=>?_⟩;refine⟨fun h=>absurd h (by decide),fun _=>?_⟩;refine⟨fun h=>absurd h (by decide),fun _=>?_⟩;refine⟨fun _=>?_,fun h=>absurd h (by decide)⟩;refine .inr (.inr (.inr (.inr (.inr (.inl ⟨[0],_,[],_,rfl,List.nodup_cons.2 ⟨by simp,List.nodup_nil⟩,rfl,ht,?_⟩)))));rintro _ _ _ ⟨rfl,rfl,rfl⟩;refine .inr (.inr (.inr (.inr (.inr (.inl ⟨[0],_,[],_,rfl,List.nodup_cons.2 ⟨by simp,List.nodup_nil⟩,rfl,yO hd h0.2,?_⟩)))));rintro _ _ _ ⟨rfl,rfl,rfl⟩;refine⟨{k:Nat // k<=r / 14 % 4},fun k=>{vs:=[(0,.v (pt b 0)),(1,sv (d:Nat)),(4,.box 0 eZ),(5,sv (r:Nat)),(14,.box 0 (zC1 t (st k.1).1 p)),(15,sv (k.1:Nat))],ow:=[(14,9,15)],hp:=mkH b (st k.1).2.1 (st k.1).2.2},fun k=>r / 14 % 4-k.1,⟨0,Nat.zero_le _⟩,⟨⟨rfl,rfl,rfl,rfl,?_,rfl,trivial⟩,⟨trivial,trivial⟩,rfl⟩,?_⟩
 ·show SV.box 0 (zC1 t [] p)=SV.box 0 (zC1 t (st 0).1 p);rw[h0.1]
 rintro⟨k,hk⟩;refine⟨by decide,?_⟩;refine⟨by decide,?_⟩;refine⟨fun h=>?_,fun h=>?_⟩
 ·have h:k<r / 14 % 4:=by
   have h:=of_decide_eq_true h;rw[zC3 hr] at h;have e:(((r / 14:Nat):Int).tmod 4)=((r / 14 % 4:Nat):Int):=rfl;rw[e] at h;simp only at h;omega
  have hd14:=Nat.div_le_self r 14;have h3:=Nat.mod_lt (r / 14) (show 0<4 by decide);have hk3:k=0∨k=1∨k=2:=by omega
  rcases hk3 with rfl|rfl|rfl
  ·obtain⟨vs,q,lm,g1,g2,g3⟩:=hst 0 h;have hl:=hlen 0 hk;obtain⟨⟨ls,la,na⟩,hs⟩:∃s,s=st 0:=⟨_,rfl⟩
   obtain⟨⟨ls',lb,nb⟩,hs'⟩:∃s,s=st (0+1):=⟨_,rfl⟩
   rw[<-hs] at g1 g2 g3 hl;rw[<-hs'] at g2 g3;simp only at g1 g2 g3 hl;simp only[<-hs];have hcn:zF Tryz.prog 96 [.lit (.int .i64 (IntKind.i64.wrap (IntKind.i64.wrap ((r:Int).tdiv 14)+0)))] (str (cnF (r / 14+0))):=by
    rw[zC3 hr,show ((r / 14:Nat):Int)+0=((r / 14+0:Nat):Int) by omega,xC (by omega)];exact zQD (by omega)
   refine⟨by decide,?_⟩;refine .inl ⟨_,hcn,?_⟩;refine .inr (.inr (.inr (.inr (.inr (.inl ⟨[0],_,[],_,rfl,List.nodup_cons.2 ⟨by simp,List.nodup_nil⟩,rfl,g1,?_⟩)))));rintro _ _ _ ⟨rfl,rfl,rfl⟩;refine⟨fun h=>absurd h (by decide),fun _=>?_⟩;refine⟨fun h=>absurd h (by decide),fun _=>?_⟩;refine .inr (.inr (.inr (.inr (.inr (.inl ⟨[0],_,[],_,rfl,List.nodup_cons.2 ⟨by simp,List.nodup_nil⟩,rfl,yO hd g2,?_⟩)))));rintro _ _ _ ⟨rfl,rfl,rfl⟩;refine⟨by show (xO ls).length+1<=_;simp[xO];omega,zGA _,zGA [((hdF r 0 vs).1,(hdF r 0 vs).2,q)],?_⟩;refine⟨⟨0+1,h⟩,by simp;omega,⟨rfl,rfl,rfl,rfl,?_,rfl,trivial⟩,⟨rfl,trivial⟩,?_⟩
   ·have e:xO (st (0+1)).1=xO ls++[eAl ((hdF r 0 vs).1,(hdF r 0 vs).2,q)]:=by rw[<-hs',g3];simp[xO]
    show SV.box 0 (AV.agg [.lit (.int .i64 9),.lit (.int .i64 0),.lit (.string ByteArray.empty),.lit (.int .i64 t.form),.lit (.int .i64 t.num),.lit (.string t.nam),.sl t.eArgs,.sl [eC p],.sl [],.sl (xO ls++[_])])=SV.box 0 (zC1 t (st (0+1)).1 p);unfold zC1;rw[e]
    rfl
   ·show mkH b lb nb=mkH b (st (0+1)).2.1 (st (0+1)).2.2;rw[<-hs']
  ·obtain⟨vs,q,lm,g1,g2,g3⟩:=hst 1 h;have hl:=hlen 1 hk;obtain⟨⟨ls,la,na⟩,hs⟩:∃s,s=st 1:=⟨_,rfl⟩
   obtain⟨⟨ls',lb,nb⟩,hs'⟩:∃s,s=st (1+1):=⟨_,rfl⟩
   rw[<-hs] at g1 g2 g3 hl;rw[<-hs'] at g2 g3;simp only at g1 g2 g3 hl;simp only[<-hs];have hcn:zF Tryz.prog 96 [.lit (.int .i64 (IntKind.i64.wrap (IntKind.i64.wrap ((r:Int).tdiv 14)+1)))] (str (cnF (r / 14+1))):=by
    rw[zC3 hr,show ((r / 14:Nat):Int)+1=((r / 14+1:Nat):Int) by omega,xC (by omega)];exact zQD (by omega)
   refine⟨by decide,?_⟩;refine .inl ⟨_,hcn,?_⟩;refine .inr (.inr (.inr (.inr (.inr (.inl ⟨[0],_,[],_,rfl,List.nodup_cons.2 ⟨by simp,List.nodup_nil⟩,rfl,g1,?_⟩)))));rintro _ _ _ ⟨rfl,rfl,rfl⟩;refine⟨fun _=>?_,fun h=>absurd h (by decide)⟩;refine⟨by decide,?_⟩;refine⟨fun h=>absurd h (by decide),fun _=>?_⟩;refine .inr (.inr (.inr (.inr (.inr (.inl ⟨[0],_,[],_,rfl,List.nodup_cons.2 ⟨by simp,List.nodup_nil⟩,rfl,yO hd g2,?_⟩)))));rintro _ _ _ ⟨rfl,rfl,rfl⟩;refine⟨by show (xO ls).length+1<=_;simp[xO];omega,zGA _,zGA [((hdF r 1 vs).1,(hdF r 1 vs).2,q)],?_⟩;refine⟨⟨1+1,h⟩,by simp;omega,⟨rfl,rfl,rfl,rfl,?_,rfl,trivial⟩,⟨rfl,trivial⟩,?_⟩
   ·have e:xO (st (1+1)).1=xO ls++[eAl ((hdF r 1 vs).1,(hdF r 1 vs).2,q)]:=by rw[<-hs',g3];simp[xO]
    show SV.box 0 (AV.agg [.lit (.int .i64 9),.lit (.int .i64 0),.lit (.string ByteArray.empty),.lit (.int .i64 t.form),.lit (.int .i64 t.num),.lit (.string t.nam),.sl t.eArgs,.sl [eC p],.sl [],.sl (xO ls++[_])])=SV.box 0 (zC1 t (st (1+1)).1 p);unfold zC1;rw[e]
    rfl
   ·show mkH b lb nb=mkH b (st (1+1)).2.1 (st (1+1)).2.2;rw[<-hs']
  ·obtain⟨vs,q,lm,g1,g2,g3⟩:=hst 2 h;have hl:=hlen 2 hk;obtain⟨⟨ls,la,na⟩,hs⟩:∃s,s=st 2:=⟨_,rfl⟩
   obtain⟨⟨ls',lb,nb⟩,hs'⟩:∃s,s=st (2+1):=⟨_,rfl⟩
   rw[<-hs] at g1 g2 g3 hl;rw[<-hs'] at g2 g3;simp only at g1 g2 g3 hl;simp only[<-hs];have hcn:zF Tryz.prog 96 [.lit (.int .i64 (IntKind.i64.wrap (IntKind.i64.wrap ((r:Int).tdiv 14)+2)))] (str (cnF (r / 14+2))):=by
    rw[zC3 hr,show ((r / 14:Nat):Int)+2=((r / 14+2:Nat):Int) by omega,xC (by omega)];exact zQD (by omega)
   refine⟨by decide,?_⟩;refine .inl ⟨_,hcn,?_⟩;refine .inr (.inr (.inr (.inr (.inr (.inl ⟨[0],_,[],_,rfl,List.nodup_cons.2 ⟨by simp,List.nodup_nil⟩,rfl,g1,?_⟩)))));rintro _ _ _ ⟨rfl,rfl,rfl⟩;refine⟨fun h=>absurd h (by decide),fun _=>?_⟩;refine⟨fun _=>?_,fun h=>absurd h (by decide)⟩;refine .inr (.inr (.inr (.inr (.inr (.inl ⟨[0],_,[],_,rfl,List.nodup_cons.2 ⟨by simp,List.nodup_nil⟩,rfl,yO hd g2,?_⟩)))));rintro _ _ _ ⟨rfl,rfl,rfl⟩;refine⟨by show (xO ls).length+1<=_;simp[xO];omega,zGA _,zGA [((hdF r 2 vs).1,(hdF r 2 vs).2,q)],?_⟩;refine⟨⟨2+1,h⟩,by simp;omega,⟨rfl,rfl,rfl,rfl,?_,rfl,trivial⟩,⟨rfl,trivial⟩,?_⟩
   ·have e:xO (st (2+1)).1=xO ls++[eAl ((hdF r 2 vs).1,(hdF r 2 vs).2,q)]:=by rw[<-hs',g3];simp[xO]
    show SV.box 0 (AV.agg [.lit (.int .i64 9),.lit (.int .i64 0),.lit (.string ByteArray.empty),.lit (.int .i64 t.form),.lit (.int .i64 t.num),.lit (.string t.nam),.sl t.eArgs,.sl [eC p],.sl [],.sl (xO ls++[_])])=SV.box 0 (zC1 t (st (2+1)).1 p);unfold zC1;rw[e]
    rfl
   ·show mkH b lb nb=mkH b (st (2+1)).2.1 (st (2+1)).2.2;rw[<-hs']
 ·have h:k=r / 14 % 4:=by
   have h:=of_decide_eq_false h;rw[zC3 hr] at h;have e:(((r / 14:Nat):Int).tmod 4)=((r / 14 % 4:Nat):Int):=rfl;rw[e] at h;simp only at h;omega
  subst h;have ec:zC1 t (st (r / 14 % 4)).1 p=eC (.node 9 0 .empty t (lst [p] [] (st (r / 14 % 4)).1)):=by
   obtain⟨e0,e1,e2⟩:=zX8 (⟨9,0,.empty,t,[p],[],(st (r / 14 % 4)).1⟩:Nd);have e0:(Cr.node 9 0 .empty t (lst [p] [] (st (r / 14 % 4)).1)).e3 0=eCs [p]:=e0;have e1:(Cr.node 9 0 .empty t (lst [p] [] (st (r / 14 % 4)).1)).e3 1=yM []:=e1;have e2:(Cr.node 9 0 .empty t (lst [p] [] (st (r / 14 % 4)).1)).e3 2=xO (st (r / 14 % 4)).1:=e2;unfold eC zC1;rw[e0,e1,e2]
   rfl
  exact⟨ec,rfl,rfl⟩
theorem row_of {σ:Type} (I:Nat->σ->Prop) (R:Nat->σ->σ->Prop) (s0:σ) (h0:I 0 s0):∀m,(∀k s,k<m->I k s->∃s',R k s s'/\I (k+1) s')->∃st:Nat->σ,st 0=s0/\(∀k,k<m->R k (st k) (st (k+1)))/\∀k,k<=m->I k (st k):=by
 intro m;induction m with
 | zero =>
  intro _;refine⟨fun _=>s0,rfl,fun k hk=>absurd hk (Nat.not_lt_zero k),fun k hk=>?_⟩;have hk0:k=0:=by omega
  subst hk0;exact h0
 | succ m ih =>
  intro hs;obtain⟨st,e0,hR,hI⟩:=ih fun k s hk hi=>hs k s (by omega) hi;obtain⟨s',r1,r2⟩:=hs m (st m) (by omega) (hI m (Nat.le_refl _));refine⟨fun k=>if k<=m then st k else s',?_,fun k hk=>?_,fun k hk=>?_⟩
  ·show (if 0<=m then st 0 else s')=s0;rw[if_pos (Nat.zero_le _),e0]
  ·show R k (if k<=m then st k else s') (if k+1<=m then st (k+1) else s');rw[if_pos (by omega)];by_cases h:k+1<=m
   ·rw[if_pos h];exact hR k (by omega)
   ·rw[if_neg h];have:k=m:=by omega
    subst this;exact r1
  ·show I k (if k<=m then st k else s');by_cases h:k<=m
   ·rw[if_pos h];exact hI k h
   ·rw[if_neg h];have:k=m+1:=by omega
    subst this;exact r2
def W18:List ByteArray := .empty::(nm18++cn18++pm18++wF)
def Cr.Pk:Cr->Prop
 | .nil=>True
 | .node f n s t g=>(1<=f/\f<=11)/\(-3<=n/\n<100/\(f=1->n=0))/\s∈W18/\(good t∨t = .no/\f≠5/\f≠6/\f≠9/\f≠11)/\g.Pk
 | .kid p r=>p.Pk/\r.Pk
 | .bind x t p r=>x∈W18/\good t/\p.Pk/\r.Pk
 | .alt f n s vs p r=>(1<=f/\f<=3)/\(0<=n/\n<100)/\s∈W18/\(∀v∈vs,v∈W18)/\p.Pk/\r.Pk
theorem nmW {s:ByteArray} (h:s∈nm18):s∈W18:=List.mem_cons_of_mem _ (List.mem_append_left _ (List.mem_append_left _ (List.mem_append_left _ h)))
theorem cnW {s:ByteArray} (h:s∈cn18):s∈W18:=List.mem_cons_of_mem _ (List.mem_append_left _ (List.mem_append_left _ (List.mem_append_right _ h)))
theorem pmW {s:ByteArray} (h:s∈pm18):s∈W18:=List.mem_cons_of_mem _ (List.mem_append_left _ (List.mem_append_right _ h))
theorem s4W {s:ByteArray} (h:s∈wF):s∈W18:=List.mem_cons_of_mem _ (List.mem_append_right _ h)
theorem emW:ByteArray.empty∈W18:=List.mem_cons_self
def bud (n:Int):Nat:=(n-1).toNat
structure CorOk (l:List Int) (n:Int) (c:Cr) (l':List Int) (n':Int):Prop where
 isN:c.isN=true
 ok:c.Ok
 low:c.LowC 2000
 pk:c.Pk
 le:l'.length<=l.length
 nums:Nums l'
 dn:n'<=n
 wt:c.wt<=2+6*(bud n-bud n')+5*(l.length-l'.length)
 zb:c.sz<=1+4*(bud n-bud n')
 zl:c.sz<=1+4*(l.length-l'.length)
theorem zIO {l:List Int} {n:Int} (hl:Nums l) {f i:Int} {s:ByteArray} (hf:f=1∨f=2∨f=3) (hi : -3<=i/\i<100/\(f=1->i=0)) (hs:s∈W18):CorOk l n (.node f i s .no .nil) (l.drop 1) (n-1):=by
 refine⟨rfl,?_,⟨trivial,trivial⟩,⟨by omega,hi,hs,.inr ⟨rfl,by omega,by omega,by omega,by omega⟩,trivial⟩,by simp,hl.drop,by omega,by simp only[Cr.wt,Tp.sz];omega,by simp only[Cr.sz];omega,by simp only[Cr.sz];omega⟩;refine⟨rfl,fun _=>⟨rfl,rfl⟩,fun _=>rfl,?_,fun h=>absurd rfl h,fun h=>absurd rfl h,List.nodup_nil,trivial⟩;rcases hf with rfl|rfl|rfl<;>rfl
theorem zHU (l:List Int) (n:Int) (d:Nat) (hl:Nums l) (hn : -100000<n/\n<100000) (hlf:5<d∨n-1<1):∃c l' n',CorOk l n c l' n'/\n'=n-1/\∀b,qW b l n d c l' n':=by
 obtain⟨r,hr,hr0,hnext⟩:=zBY l n hl;have h4:=Nat.mod_lt r (show 0<4 by decide)
 match hK:r % 4,h4 with
 | 0,_ =>
  obtain⟨s,hs,hT⟩:=zX0 (l.drop 1) (n-1) r d hr;exact⟨_,_,_,zIO (i:=0) hl (.inl rfl) (by decide) (nmW hs),rfl,fun b=>zBQ b l n d r hn (hnext b) _ _ _ (by rw[if_pos hlf,hK];exact hT b)⟩
 | 1,_ =>
  obtain⟨s,hs,hT⟩:=zX5 (l.drop 1) (n-1) r d hr;exact⟨_,_,_,zIO (i:=0) hl (.inl rfl) (by decide) (nmW hs),rfl,fun b=>zBQ b l n d r hn (hnext b) _ _ _ (by rw[if_pos hlf,hK];exact hT b)⟩
 | 2,_ =>
  obtain⟨s,hs,hT⟩:=zWB (l.drop 1) (n-1) r d hr;exact⟨_,_,_,zIO (i:=0) hl (.inr (.inl rfl)) (by decide) (cnW hs),rfl,fun b=>zBQ b l n d r hn (hnext b) _ _ _ (by rw[if_pos hlf,hK];exact hT b)⟩
 | 3,_ =>
  obtain⟨i,hi,hT⟩:=zWY (l.drop 1) (n-1) r d hr;exact⟨_,_,_,zIO hl (.inr (.inr rfl)) ⟨hi.1,hi.2,fun h=>absurd h (by decide)⟩ emW,rfl,fun b=>zBQ b l n d r hn (hnext b) _ _ _ (by rw[if_pos hlf,hK];exact hT b)⟩
 | j+4,h=>omega
def Fine (c:Cr):Prop:=c.isN=true/\c.Ok/\c.LowC 2000/\c.Pk
def zZE (h:Int×Int×ByteArray):Prop:=(1<=h.1/\h.1<=3)/\(0<=h.2.1/\h.2.1<100)/\h.2.2∈W18
def wB:List Bdg->Nat
 | []=>0
 | b::bs=>1+b.2.1.sz+b.2.2.wt+wB bs
def wA:List Alg->Nat
 | []=>0
 | a::bs=>1+a.2.1.length+a.2.2.wt+wA bs
def zB:List Bdg->Nat
 | []=>0
 | b::bs=>b.2.2.sz+zB bs
def zA:List Alg->Nat
 | []=>0
 | a::bs=>a.2.2.sz+zA bs
theorem zMG (bs:List Bdg) (b:Bdg):zB (bs++[b])=zB bs+b.2.2.sz:=by
 induction bs with
 | nil=>simp[zB]
 | cons a bs ih=>simp only[List.cons_append,zB,ih];omega
theorem zLQ (bs:List Alg) (b:Alg):zA (bs++[b])=zA bs+b.2.2.sz:=by
 induction bs with
 | nil=>simp[zA]
 | cons a bs ih=>simp only[List.cons_append,zA,ih];omega
theorem z0F (bs:List Bdg):(lst [] bs []).sz=zB bs:=by
 induction bs with
 | nil=>rfl
 | cons b bs ih=>exact congrArg (b.2.2.sz + ·) ih
theorem z09 (bs:List Alg):(lst [] [] bs).sz=zA bs:=by
 induction bs with
 | nil=>rfl
 | cons b bs ih=>exact congrArg (b.2.2.sz + ·) ih
theorem zYH (p:Cr) (bs:List Bdg):(Cr.node 8 0 .empty .no (lst [p] bs [])).sz=1+(p.sz+zB bs):=congrArg (fun k=>1+(p.sz+k)) (z0F bs)
theorem zSJ (p:Cr) (t:Tp) (bs:List Alg):(Cr.node 9 0 .empty t (lst [p] [] bs)).sz=1+(p.sz+zA bs):=congrArg (fun k=>1+(p.sz+k)) (z09 bs)
theorem zUU (bs:List Bdg) (b:Bdg):wB (bs++[b])=wB bs+(1+b.2.1.sz+b.2.2.wt):=by
 induction bs with
 | nil=>simp[wB]
 | cons a bs ih=>simp only[List.cons_append,wB,ih];omega
theorem zUD (bs:List Alg) (b:Alg):wA (bs++[b])=wA bs+(1+b.2.1.length+b.2.2.wt):=by
 induction bs with
 | nil=>simp[wA]
 | cons a bs ih=>simp only[List.cons_append,wA,ih];omega
theorem zZT (bs:List Bdg) (hb:∀b∈bs,(b.1∈W18/\good b.2.1/\LowT 2000 b.2.1)/\Fine b.2.2):(lst [] bs []).isN=false/\(lst [] bs []).Ok/\(lst [] bs []).LowC 2000/\(lst [] bs []).Pk/\(lst [] bs []).wt=wB bs:=by
 induction bs with
 | nil=>exact⟨rfl,trivial,trivial,trivial,rfl⟩
 | cons b bs ih =>
  obtain⟨h1,h2,h3,hp,h4⟩:=ih fun x hx=>hb x (List.mem_cons_of_mem _ hx);obtain⟨⟨u1,u2,u3⟩,t2,t3,t4,t5⟩:=hb b List.mem_cons_self;exact⟨rfl,⟨t2,h1,(zAJ [] bs []).1,t3,h2⟩,⟨u3,t4,h3⟩,⟨u1,u2,t5,hp⟩,congrArg (1+b.2.1.sz+b.2.2.wt + ·) h4⟩
theorem z0O (bs:List Alg) (hb:∀b∈bs,(zZE b.1/\b.2.1.Nodup/\∀v∈b.2.1,v∈W18)/\Fine b.2.2):(lst [] [] bs).isN=false/\(lst [] [] bs).Ok/\(lst [] [] bs).LowC 2000/\(lst [] [] bs).Pk/\(lst [] [] bs).wt=wA bs:=by
 induction bs with
 | nil=>exact⟨rfl,trivial,trivial,trivial,rfl⟩
 | cons b bs ih =>
  obtain⟨h1,h2,h3,hp,h4⟩:=ih fun x hx=>hb x (List.mem_cons_of_mem _ hx);obtain⟨⟨u1,u2,u3⟩,t2,t3,t4,t5⟩:=hb b List.mem_cons_self;exact⟨rfl,⟨t2,h1,(zAJ [] [] bs).1,(zAJ [] [] bs).2.1,u2,t3,h2⟩,⟨t4,h3⟩,⟨u1.1,u1.2.1,u1.2.2,u3,t5,hp⟩,congrArg (1+b.2.1.length+b.2.2.wt + ·) h4⟩
theorem zYM {p:Cr} {bs:List Bdg} (hp:Fine p) (hb:∀b∈bs,(b.1∈W18/\good b.2.1/\LowT 2000 b.2.1)/\Fine b.2.2) (hn:(bs.map (·.1)).Nodup):Fine (.node 8 0 .empty .no (lst [p] bs []))/\(Cr.node 8 0 .empty .no (lst [p] bs [])).wt=2+p.wt+wB bs:=by
 obtain⟨h1,h2,h3,hk,h4⟩:=zZT bs hb;obtain⟨q1,q2,q3,_⟩:=zAJ [p] bs [];refine⟨⟨rfl,⟨rfl,fun h=>absurd h (by decide),fun h=>rfl,by rw[q1];rfl,fun _=>rfl,fun h=>absurd q3 h,by rw[q2];exact hn,hp.1,h1,hp.2.1,h2⟩,⟨trivial,hp.2.2.1,h3⟩,⟨by decide,by decide,emW,.inr ⟨rfl,by decide⟩,hp.2.2.2,hk⟩⟩,?_⟩;show 1+Tp.no.sz+(p.wt+(lst [] bs []).wt)=_;rw[h4];simp only[Tp.sz];omega
theorem zT8 {p:Cr} {t:Tp} {bs:List Alg} (ht:good t/\LowT 2000 t) (hp:Fine p) (hb:∀b∈bs,(zZE b.1/\b.2.1.Nodup/\∀v∈b.2.1,v∈W18)/\Fine b.2.2):Fine (.node 9 0 .empty t (lst [p] [] bs))/\(Cr.node 9 0 .empty t (lst [p] [] bs)).wt=1+t.sz+p.wt+wA bs:=by
 obtain⟨h1,h2,h3,hk,h4⟩:=z0O bs hb;obtain⟨q1,q2,q3,_⟩:=zAJ [p] [] bs;refine⟨⟨rfl,⟨rfl,fun h=>absurd h (by decide),fun h=>absurd h (by decide),by rw[q1];rfl,fun h=>absurd q2 h,fun _=>rfl,by rw[q2];exact List.nodup_nil,hp.1,h1,hp.2.1,h2⟩,⟨ht.2,hp.2.2.1,h3⟩,⟨by decide,by decide,emW,.inl ht.1,hp.2.2.2,hk⟩⟩,?_⟩;show 1+t.sz+(p.wt+(lst [] [] bs).wt)=_;rw[h4];omega
theorem zWT {f:Int} {s:ByteArray} {p q:Cr} (hs:s∈W18) (hf:f=4∨f=10) (hp:Fine p) (hq:Fine q):Fine (.node f 0 s .no (.kid p (.kid q .nil)))/\(Cr.node f 0 s .no (.kid p (.kid q .nil))).wt=2+p.wt+q.wt:=by
 refine⟨⟨rfl,⟨rfl,fun h=>?_,fun h=>rfl,?_,fun h=>absurd rfl h,fun h=>absurd rfl h,List.nodup_nil,hp.1,rfl,hp.2.1,hq.1,rfl,hq.2.1,trivial⟩,⟨trivial,hp.2.2.1,hq.2.2.1,trivial⟩,⟨by omega,⟨by decide,by decide,fun _=>rfl⟩,hs,.inr ⟨rfl,by omega,by omega,by omega,by omega⟩,hp.2.2.2,hq.2.2.2,trivial⟩⟩,?_⟩
 ·rcases hf with rfl|rfl<;>exact absurd h (by decide)
 ·rcases hf with rfl|rfl<;>rfl
 ·simp only[Cr.wt,Tp.sz];omega
theorem zOI {f:Int} {s:ByteArray} {t:Tp} {p:Cr} (hs:s∈W18) (hf:(f=5∨f=6)/\good t∨f=7/\t = .no) (ht:LowT 2000 t) (hp:Fine p):Fine (.node f 0 s t (.kid p .nil))/\(Cr.node f 0 s t (.kid p .nil)).wt=1+t.sz+p.wt:=by
 refine⟨⟨rfl,⟨rfl,fun h=>?_,fun h=>?_,?_,fun h=>absurd rfl h,fun h=>absurd rfl h,List.nodup_nil,hp.1,rfl,hp.2.1,trivial⟩,⟨ht,hp.2.2.1,trivial⟩,⟨by omega,⟨by decide,by decide,fun _=>rfl⟩,hs,hf.elim (fun h => .inl h.2) (fun h => .inr ⟨h.2,by omega,by omega,by omega,by omega⟩),hp.2.2.2,trivial⟩⟩,?_⟩
 ·rcases hf with⟨rfl|rfl,_⟩|⟨rfl,_⟩<;>exact absurd h (by decide)
 ·rcases hf with⟨rfl|rfl,_⟩|⟨rfl,e⟩
  ·exact absurd h (by decide)
  ·exact absurd h (by decide)
  ·exact e
 ·rcases hf with⟨rfl|rfl,_⟩|⟨rfl,_⟩<;>rfl
 ·simp only[Cr.wt];omega
theorem zU5 {t:Tp} (ht:good t/\LowT 2000 t):Fine (.node 11 0 .empty t .nil)/\(Cr.node 11 0 .empty t .nil).wt=1+t.sz:=by
 refine⟨⟨rfl,⟨rfl,fun h=>absurd h (by decide),fun h=>absurd h (by decide),rfl,fun h=>absurd rfl h,fun h=>absurd rfl h,List.nodup_nil,trivial⟩,⟨ht.2,trivial⟩,⟨by decide,by decide,emW,.inl ht.1,trivial⟩⟩,?_⟩;simp only[Cr.wt];omega
theorem CorOk.fine {l:List Int} {n:Int} {c:Cr} {l':List Int} {n':Int} (h:CorOk l n c l' n'):Fine c:=⟨h.isN,h.ok,h.low,h.pk⟩
theorem CorOk.of {l:List Int} {n:Int} {c:Cr} {l':List Int} {n':Int} (h:Fine c) (le:l'.length<=l.length) (nums:Nums l') (dn:n'<=n) (wt:c.wt<=2+6*(bud n-bud n')+5*(l.length-l'.length)) (zb:c.sz<=1+4*(bud n-bud n')) (zl:c.sz<=1+4*(l.length-l'.length)):CorOk l n c l' n':=⟨h.1,h.2.1,h.2.2.1,h.2.2.2,le,nums,dn,wt,zb,zl⟩
def cF:Nat->Nat
 | 0=>1
 | k+1=>1+4*cF k
abbrev zWI (k d:Nat):Prop := ∀(l:List Int) (n:Int),Nums l->(-100000+(cF k:Nat)<n/\n<100000)->∃c l' n',CorOk l n c l' n'/\n-(cF k:Nat)<=n'/\∀b,qW b l n (d+1) c l' n'
theorem zRJ (k d r:Nat) (hd:d<1000) (ih:zWI k d) (l:List Int) (n:Int) (hl:Nums l) (hn : -100000+4*(cF k:Nat)<n/\n<100000):∃c l' n',Fine c/\Nums l'/\l'.length<=l.length/\n'<=n/\n-4*(cF k:Nat)<=n'/\c.wt<=13+6*(bud n-bud n')+5*(l.length-l'.length)/\(c.sz<=5+4*(bud n-bud n')/\c.sz<=5+4*(l.length-l'.length))/\∀b,wH b l n r d 10 c l' n':=by
 obtain⟨vs,⟨vn,vW⟩,vl,hnm⟩:=zKG l n hl;have hdl:(l.drop 1).length<=l.length/\l.length<=(l.drop 1).length+1:=by rw[List.length_drop];omega
 have v3:vs.length<=3:=by omega
 have steps:=row_of (σ:=List Bdg×List Int×Int)
  (fun j s=>s.1.length=j/\s.1.map (·.1)=vs.take j/\(∀x∈s.1,(x.1∈W18/\good x.2.1/\LowT 2000 x.2.1)/\Fine x.2.2)/\Nums s.2.1/\s.2.1.length<=(l.drop 1).length/\s.2.2<=n/\n-((j*cF k:Nat):Int)<=s.2.2/\wB s.1<=4*j+6*(bud n-bud s.2.2)+5*((l.drop 1).length-s.2.1.length)/\zB s.1<=j+4*(bud n-bud s.2.2)/\zB s.1<=j+4*((l.drop 1).length-s.2.1.length))
  (fun j s s' => ∃(hk:j<vs.length) (t:Tp) (p:Cr) (lm:List Int),(∀b,zFO b s.2.1 s.2.2 1 t lm)/\(∀b,qW b lm s.2.2 (d+1) p s'.2.1 s'.2.2)/\s'.1=s.1++[(vs[j],t,p)])
  ([],l.drop 1,n) ⟨rfl,rfl,fun x hx=>absurd hx List.not_mem_nil,hl.drop,Nat.le_refl _,Int.le_refl _,by simp,by simp[wB],by simp[zB],by simp[zB]⟩ vs.length
  (by
   rintro j ⟨bs,l1,n1⟩ hj ⟨i1,i2,i3,i4,i5,i6,i7,i8,i9,i0⟩;have hjF:j*cF k<=2*cF k:=Nat.mul_le_mul_right _ (by omega);have hsF:(j+1)*cF k=j*cF k+cF k:=Nat.succ_mul _ _;obtain⟨t,lm,⟨a1,a2,ag,a3,a4⟩,hT⟩:=zGB 2 1 l1 n1 rfl i4
   dsimp only at i1 i2 i3 i4 i5 i6 i7 i8 i9 i0
   obtain⟨p,l2,n2,ok,dn,hR⟩:=ih lm n1 a4 (by omega);obtain⟨c1,c2,c3,ck,c4,c5,c6,c7,c8,c9⟩:=ok;refine⟨(bs++[(vs[j],t,p)],l2,n2),⟨hj,t,p,lm,hT,hR,rfl⟩,?_⟩
   dsimp only
   refine⟨by simp[i1],?_,?_,c5,by omega,by omega,by omega,?_,?_,?_⟩
   ·rw[List.map_append,i2];exact List.take_append_getElem hj
   ·intro x hx;rcases List.mem_append.1 hx with h|h
    ·exact i3 x h
    ·rw[List.mem_singleton.1 h];exact⟨⟨nmW (vW _ (List.getElem_mem hj)),ag,a1⟩,c1,c2,c3,ck⟩
   ·rw[zUU]
    dsimp only
    unfold bud at i8 c7⊢;omega
   ·rw[zMG]
    dsimp only
    unfold bud at i9 c8⊢;omega
   ·rw[zMG]
    dsimp only
    omega)
 obtain⟨st,h0,hR,hI⟩:=steps;obtain⟨e1,e2,e3,e4,e5,e6,e7,e8,e9,e0⟩:=hI vs.length (Nat.le_refl _);have hvF:vs.length*cF k<=3*cF k:=Nat.mul_le_mul_right _ v3;obtain⟨p,l2,n2,ok,dn,hRb⟩:=ih (st vs.length).2.1 (st vs.length).2.2 e4 (by omega);have hfine:=ok.fine;obtain⟨c1,c2,c3,ck,c4,c5,c6,c7,c8,c9⟩:=ok;obtain⟨f1,f2⟩:=zYM hfine e3 (by rw[e2,List.take_length];exact vn);refine⟨_,l2,n2,f1,c5,by omega,by omega,by omega,?_,⟨?_,?_⟩,fun b=>z0T b l n r d (n1:=0) (l1:=[]) hd (by omega) (hnm b) st h0 (fun j hj=>?_) (fun j hj=>(hI j hj).1) (hRb b)⟩
 ·rw[f2];unfold bud at e8 c7⊢;omega
 ·rw[zYH];unfold bud at e9 c8⊢;omega
 ·rw[zYH];omega
 ·obtain⟨_,t,p,lm,h1,h2,h3⟩:=hR j hj;exact⟨t,p,lm,h1 b,h2 b,h3⟩
theorem zPP (k d r:Nat) (hr:r<1000) (hd:d<1000) (ih:zWI k d) (l:List Int) (n:Int) (hl:Nums l) (hn : -100000+4*(cF k:Nat)<n/\n<100000):∃c l' n',Fine c/\Nums l'/\l'.length<=l.length/\n'<=n/\n-4*(cF k:Nat)<=n'/\c.wt<=13+6*(bud n-bud n')+5*(l.length-l'.length)/\(c.sz<=5+4*(bud n-bud n')/\c.sz<=5+4*(l.length-l'.length))/\∀b,wH b l n r d 11 c l' n':=by
 obtain⟨t,l0,⟨a1,a2,ag,a3,a4⟩,hT⟩:=zGB 2 1 l n rfl hl;obtain⟨p,l1,n1,ok,dn,hRp⟩:=ih l0 n a4 (by omega);have hfine:=ok.fine;obtain⟨p1,p2,p3,pk,p4,p5,p6,p7,p8,p9⟩:=ok;have m3:r / 14 % 4<=3:=by omega
 have steps:=row_of (σ:=List Alg×List Int×Int)
  (fun j s=>s.1.length=j/\(∀x∈s.1,(zZE x.1/\x.2.1.Nodup/\∀v∈x.2.1,v∈W18)/\Fine x.2.2)/\Nums s.2.1/\s.2.1.length<=l1.length/\s.2.2<=n1/\n1-((j*cF k:Nat):Int)<=s.2.2/\wA s.1<=3*j+6*(bud n1-bud s.2.2)+5*(l1.length-s.2.1.length)/\zA s.1<=j+4*(bud n1-bud s.2.2)/\zA s.1<=j+4*(l1.length-s.2.1.length))
  (fun j s s' => ∃(vs:List ByteArray) (q:Cr) (lm:List Int),(∀b,CallsG Tryz.prog (fnv 98) (mkH b s.2.1 s.2.2) [pt b 0] [] (fun r o h=>r = .sl (eSs vs)/\o=0/\h=mkH b lm s.2.2))/\(∀b,qW b lm s.2.2 (d+1) q s'.2.1 s'.2.2)/\s'.1=s.1++[((hdF r j vs).1,(hdF r j vs).2,q)])
  ([],l1,n1) ⟨rfl,fun x hx=>absurd hx List.not_mem_nil,p5,Nat.le_refl _,Int.le_refl _,by simp,by simp[wA],by simp[zA],by simp[zA]⟩ (r / 14 % 4)
  (by
   rintro j ⟨bs,l2,n2⟩ hj ⟨i1,i3,i4,i5,i6,i7,i8,i9,i0⟩;have hjF:j*cF k<=2*cF k:=Nat.mul_le_mul_right _ (by omega);have hsF:(j+1)*cF k=j*cF k+cF k:=Nat.succ_mul _ _
   dsimp only at i1 i3 i4 i5 i6 i7 i8 i9 i0
   obtain⟨vs,⟨vn,vW⟩,vl,hnm⟩:=zKG l2 n2 i4;have hdl:(l2.drop 1).length<=l2.length/\l2.length<=(l2.drop 1).length+1:=by rw[List.length_drop];omega
   obtain⟨q,l3,n3,ok,dn,hR⟩:=ih (l2.drop 1) n2 i4.drop (by omega);have hfq:=ok.fine;obtain⟨c1,c2,c3,ck,c4,c5,c6,c7,c8,c9⟩:=ok;refine⟨(bs++[((hdF r j vs).1,(hdF r j vs).2,q)],l3,n3),⟨vs,q,l2.drop 1,hnm,hR,rfl⟩,?_⟩;have hh:(hdF r j vs).2.Nodup/\(hdF r j vs).2.length<=vs.length/\zZE (hdF r j vs).1/\∀v∈(hdF r j vs).2,v∈W18:=by
    unfold hdF;by_cases h1:j=1
    ·rw[if_pos h1];exact⟨List.nodup_nil,Nat.zero_le _,⟨⟨by simp,by simp⟩,by show 0<=IntKind.i64.wrap ((r:Int).tdiv 14)/\IntKind.i64.wrap ((r:Int).tdiv 14)<100;rw[zC3 hr];omega,emW⟩,fun v hv=>absurd hv List.not_mem_nil⟩
    ·rw[if_neg h1];by_cases h2:j=2
     ·rw[if_pos h2];exact⟨List.nodup_nil,Nat.zero_le _,⟨by decide,by decide,emW⟩,fun v hv=>absurd hv List.not_mem_nil⟩
     ·rw[if_neg h2];exact⟨vn,Nat.le_refl _,⟨⟨by simp,by simp⟩,⟨by simp,by simp⟩,cnW (z2E (by omega))⟩,fun v hv=>nmW (vW v hv)⟩
   dsimp only
   refine⟨by simp[i1],?_,c5,by omega,by omega,by omega,?_,?_,?_⟩
   ·intro x hx;rcases List.mem_append.1 hx with h|h
    ·exact i3 x h
    ·rw[List.mem_singleton.1 h];exact⟨⟨hh.2.2.1,hh.1,hh.2.2.2⟩,hfq⟩
   ·rw[zUD]
    dsimp only
    have:=hh.2.1;unfold bud at i8 c7⊢;omega
   ·rw[zLQ]
    dsimp only
    unfold bud at i9 c8⊢;omega
   ·rw[zLQ]
    dsimp only
    omega)
 obtain⟨st,h0,hR,hI⟩:=steps;obtain⟨e1,e3,e4,e5,e6,e7,e8,e9,e0⟩:=hI (r / 14 % 4) (Nat.le_refl _);have hvF:(r / 14 % 4)*cF k<=3*cF k:=Nat.mul_le_mul_right _ m3;obtain⟨f1,f2⟩:=zT8 ⟨ag,a1⟩ hfine e3;refine⟨_,(st (r / 14 % 4)).2.1,(st (r / 14 % 4)).2.2,f1,e4,by omega,by omega,by omega,?_,⟨?_,?_⟩,fun b=>zZ4 b l n r d hr hd (hT b) st ⟨by rw[h0],by rw[h0];exact hRp b⟩ (fun j hj=>let ⟨vs,q,lm,h1,h2,h3⟩:=hR j hj;⟨vs,q,lm,h1 b,h2 b,h3⟩) (fun j hj=>(hI j hj).1)⟩
 ·rw[f2];unfold bud at e8 p7⊢;omega
 ·rw[zSJ];unfold bud at e9 p8⊢;omega
 ·rw[zSJ];omega
theorem zUY (k:Nat):∀(d:Nat) (l:List Int) (n:Int),d+k=6->Nums l->(-100000+(cF k:Nat)<n/\n<100000)->∃c l' n',CorOk l n c l' n'/\n-(cF k:Nat)<=n'/\∀b,qW b l n d c l' n':=by
 induction k with
 | zero =>
  intro d l n hd hl hn;obtain⟨c,l',n',ok,e,hR⟩:=zHU l n d hl (by omega) (.inl (by omega));exact⟨c,l',n',ok,by rw[e];simp only[cF];omega,hR⟩
 | succ k ih0 =>
  intro d l n hd hl hn;have hF:cF (k+1)=1+4*cF k:=rfl;have hF1:0<cF k:=by cases k<;>simp only[cF]<;>omega
  by_cases hlf:5<d∨n-1<1
  ·obtain⟨c,l',n',ok,e,hR⟩:=zHU l n d hl (by omega) hlf;exact⟨c,l',n',ok,by rw[e];omega,hR⟩
  ·have ih:zWI k d:=fun l n h1 h2=>ih0 (d+1) l n (by omega) h1 h2;have hdd:d<1000:=by omega
   obtain⟨r,hr,hr0,hnext⟩:=zBY l n hl;have hle:(l.drop 1).length<=l.length:=by simp
   have hne:¬r=0->(l.drop 1).length+1=l.length:=fun h=>by
    cases l with
    | nil=>exact absurd (hr0 rfl) h
    | cons i l=>simp
   have hb1:bud n=bud (n-1)+1:=by unfold bud;omega
   have h14:=Nat.mod_lt r (show 0<14 by decide);have fin:∀(K:Nat),r % 14=K->4<=K->(∃c l' n',Fine c/\Nums l'/\l'.length<=(l.drop 1).length/\n'<=n-1/\(n-1)-4*(cF k:Nat)<=n'/\c.wt<=13+6*(bud (n-1)-bud n')+5*((l.drop 1).length-l'.length)/\(c.sz<=5+4*(bud (n-1)-bud n')/\c.sz<=5+4*((l.drop 1).length-l'.length))/\∀b,wH b (l.drop 1) (n-1) r d K c l' n')->∃c l' n',CorOk l n c l' n'/\n-(cF (k+1):Nat)<=n'/\∀b,qW b l n d c l' n':=by
    rintro K hK h4 ⟨c,l',n',f1,f2,f3,f4,f5,f6,⟨f8,f9⟩,f7⟩;have hlen:=hne (by omega);have hbl:bud n'<=bud (n-1):=by unfold bud;omega
    exact⟨c,l',n',CorOk.of f1 (by omega) f2 (by omega) (by omega) (by omega) (by omega),by omega,fun b=>zBQ b l n d r (by omega) (hnext b) _ _ _ (by rw[if_neg hlf,hK];exact f7 b)⟩
   have leaf:∀(K:Nat),r % 14=K->(∃(f i:Int) (s:ByteArray),((f=1∨f=2∨f=3)/\(-3<=i/\i<100/\(f=1->i=0))/\s∈W18)/\∀b,wH b (l.drop 1) (n-1) r d K (.node f i s .no .nil) (l.drop 1) (n-1))->∃c l' n',CorOk l n c l' n'/\n-(cF (k+1):Nat)<=n'/\∀b,qW b l n d c l' n':=by
    rintro K hK ⟨f,i,s,⟨hf,hi,hs⟩,hT⟩;exact⟨_,_,_,zIO hl hf hi hs,by omega,fun b=>zBQ b l n d r (by omega) (hnext b) _ _ _ (by rw[if_neg hlf,hK];exact hT b)⟩
   have two:∀(K:Nat),r % 14=K->4<=K->(∀(p q:Cr) (l1 l2:List Int) (n1 n2:Int),(∀b,qW b (l.drop 1) (n-1) (d+1) p l1 n1)->(∀b,qW b l1 n1 (d+1) q l2 n2)->∃f s,((f=4∨f=10)/\s∈W18)/\∀b,wH b (l.drop 1) (n-1) r d K (.node f 0 s .no (.kid p (.kid q .nil))) l2 n2)->∃c l' n',CorOk l n c l' n'/\n-(cF (k+1):Nat)<=n'/\∀b,qW b l n d c l' n':=by
    intro K hK h4 hT;obtain⟨p,l1,n1,okp,dnp,hRp⟩:=ih (l.drop 1) (n-1) hl.drop (by omega);have fp:=okp.fine;obtain⟨p1,p2,p3,pk,p4,p5,p6,p7,p8,p9⟩:=okp;obtain⟨q,l2,n2,okq,dnq,hRq⟩:=ih l1 n1 p5 (by omega);have fq:=okq.fine;obtain⟨q1,q2,q3,qk,q4,q5,q6,q7,q8,q9⟩:=okq;obtain⟨f,s,⟨hf,hs⟩,hT⟩:=hT p q l1 l2 n1 n2 hRp hRq;obtain⟨g1,g2⟩:=zWT (s:=s) hs hf fp fq;have hbl:bud n2<=bud n1/\bud n1<=bud (n-1):=by unfold bud;omega
    exact fin K hK h4 ⟨_,l2,n2,g1,q5,by omega,by omega,by omega,by rw[g2];omega,⟨by simp only[Cr.sz];omega,by simp only[Cr.sz];omega⟩,hT⟩
   have one:∀(K:Nat),r % 14=K->4<=K->(∀(t:Tp) (p:Cr) (l1 l2:List Int) (n2:Int),(∀b,zFO b (l.drop 1) (n-1) 1 t l1)->(∀b,qW b l1 (n-1) (d+1) p l2 n2)->∃f s,((f=5∨f=6)/\s∈W18)/\∀b,wH b (l.drop 1) (n-1) r d K (.node f 0 s t (.kid p .nil)) l2 n2)->∃c l' n',CorOk l n c l' n'/\n-(cF (k+1):Nat)<=n'/\∀b,qW b l n d c l' n':=by
    intro K hK h4 hT;obtain⟨t,l1,⟨a1,a2,ag,a3,a4⟩,hTy⟩:=zGB 2 1 (l.drop 1) (n-1) rfl hl.drop;obtain⟨q,l2,n2,okq,dnq,hRq⟩:=ih l1 (n-1) a4 (by omega);have fq:=okq.fine;obtain⟨q1,q2,q3,qk,q4,q5,q6,q7,q8,q9⟩:=okq;obtain⟨f,s,⟨hf,hs⟩,hT⟩:=hT t q l1 l2 n2 hTy hRq;obtain⟨g1,g2⟩:=zOI (f:=f) (s:=s) hs (.inl ⟨hf,ag⟩) a1 fq;exact fin K hK h4 ⟨_,l2,n2,g1,q5,by omega,by omega,by omega,by rw[g2];omega,⟨by simp only[Cr.sz];omega,by simp only[Cr.sz];omega⟩,hT⟩
   match hK:r % 14,h14 with
   | 0,_=>exact leaf 0 hK (let ⟨s,hs,h⟩:=zX0 (l.drop 1) (n-1) r d hr;⟨_,_,_,⟨.inl rfl,by decide,nmW hs⟩,h⟩)
   | 1,_=>exact leaf 1 hK (let ⟨s,hs,h⟩:=zX5 (l.drop 1) (n-1) r d hr;⟨_,_,_,⟨.inl rfl,by decide,nmW hs⟩,h⟩)
   | 2,_=>exact leaf 2 hK (let ⟨s,hs,h⟩:=zWB (l.drop 1) (n-1) r d hr;⟨_,_,_,⟨.inr (.inl rfl),by decide,cnW hs⟩,h⟩)
   | 3,_=>exact leaf 3 hK (let ⟨s,hi,h⟩:=zWY (l.drop 1) (n-1) r d hr;⟨_,_,_,⟨.inr (.inr rfl),⟨hi.1,hi.2,fun h=>absurd h (by decide)⟩,emW⟩,h⟩)
   | 4,_=>exact two 4 hK (by decide) fun p q l1 l2 n1 n2 h1 h2=>⟨_,_,⟨.inl rfl,emW⟩,fun b=>z3U b (l.drop 1) (n-1) r d hr hdd (h1 b) (h2 b)⟩
   | 5,_=>exact two 5 hK (by decide) fun p q l1 l2 n1 n2 h1 h2=>⟨_,_,⟨.inl rfl,emW⟩,fun b=>z2N b (l.drop 1) (n-1) r d hr hdd (h1 b) (h2 b)⟩
   | 6,_=>exact one 6 hK (by decide) fun t p l1 l2 n2 h1 h2=>let ⟨s,hs,h⟩:=z2S (l.drop 1) (n-1) r d hr hdd h1 h2;⟨_,_,⟨.inl rfl,nmW hs⟩,h⟩
   | 7,_=>exact one 7 hK (by decide) fun t p l1 l2 n2 h1 h2=>let ⟨s,hs,h⟩:=z15 (l.drop 1) (n-1) r d hr hdd h1 h2;⟨_,_,⟨.inl rfl,nmW hs⟩,h⟩
   | 8,_=>exact one 8 hK (by decide) fun t p l1 l2 n2 h1 h2=>⟨_,_,⟨.inr rfl,emW⟩,fun b=>z4B b (l.drop 1) (n-1) r d hr hdd (h1 b) (h2 b)⟩
   | 9,_ =>
    obtain⟨q,l2,n2,okq,dnq,hRq⟩:=ih (l.drop 1) (n-1) hl.drop (by omega);have fq:=okq.fine;obtain⟨q1,q2,q3,qk,q4,q5,q6,q7,q8,q9⟩:=okq;obtain⟨s,hs,hT⟩:=z3O (l.drop 1) (n-1) r d hr hdd hRq;obtain⟨g1,g2⟩:=zOI (f:=7) (s:=s) (t := .no) (s4W hs) (.inr ⟨rfl,rfl⟩) trivial fq;exact fin 9 hK (by decide) ⟨_,l2,n2,g1,q5,by omega,by omega,by omega,by rw[g2];simp only[Tp.sz];omega,⟨by simp only[Cr.sz];omega,by simp only[Cr.sz];omega⟩,hT⟩
   | 10,_=>exact fin 10 hK (by decide) (zRJ k d r hdd ih (l.drop 1) (n-1) hl.drop (by omega))
   | 11,_=>exact fin 11 hK (by decide) (zPP k d r hr hdd ih (l.drop 1) (n-1) hl.drop (by omega))
   | 12,_=>exact two 12 hK (by decide) fun p q l1 l2 n1 n2 h1 h2=>let ⟨s,hs,h⟩:=z0W (l.drop 1) (n-1) r d hr hdd h1 h2;⟨_,_,⟨.inr rfl,pmW hs⟩,h⟩
   | 13,_ =>
    obtain⟨t,l1,⟨a1,a2,ag,a3,a4⟩,hTy⟩:=zGB 2 1 (l.drop 1) (n-1) rfl hl.drop;obtain⟨g1,g2⟩:=zU5 ⟨ag,a1⟩;exact fin 13 hK (by decide) ⟨_,l1,n-1,g1,a4,by omega,Int.le_refl _,by omega,by rw[g2];omega,⟨by simp only[Cr.sz];omega,by simp only[Cr.sz];omega⟩,fun b=>zZI b (l.drop 1) (n-1) r d hr hdd (hTy b)⟩
   | j+14,h=>omega
theorem zRE {l:List Int} (hlen:l.length<9223372036854775808) (hr:∀x∈l,InR x):∃c:Cr,Sm c/\c.Pk/\(c.wt<=176+5*(l.take 60).length/\c.sz<=117/\c.sz<=1+4*(l.take 60).length)/\zF Tryz.prog zFM [.sl (eIs l)] (eC c):=by
 have hl:Nums (l.take 60):=⟨by simp;omega,fun i hi=>hr i (List.mem_of_mem_take hi)⟩
 obtain⟨c,l',n',ok,hlow,hR⟩:=zUY 6 0 (l.take 60) 30 rfl hl (by decide);have hwt:=ok.wt;have hle:(l.take 60).length<=60:=by simp;omega
 have hb:bud 30=29:=rfl;refine⟨c,⟨ok.isN,ok.ok,by rw[hb] at hwt;omega,ok.low⟩,ok.pk,⟨by rw[hb] at hwt;omega,by have:=ok.zb;rw[hb] at this;omega,by have:=ok.zl;omega⟩,?_⟩;refine CallsG.pure ?_ (post:=fun r o h=>r=eC c/\o=0/\∃b,h=mkH b l' n') (by
  rintro r o h ⟨rfl,rfl,b,rfl⟩;exact⟨.refl _,rfl⟩)
 refine zM (first:=[]) (cap:=[]) ttok mixed Tryz.func13 rfl (by rfl) rfl (Nat.le_of_ble_eq_true rfl) (by kernel_rfl) ?_;refine Wsem.seq ttok mixed ?_;refine Wsem.seq ttok mixed ?_;refine .inl ⟨_,zZU (n:=60) hlen (by decide),?_⟩;refine .inr ⟨rfl,fun b=>?_⟩;refine Wsem.cut {vs:=[(2,.box 0 eZ),(3,.v (pt b 0))],hp:=mkH b (l.take 60) 30} ⟨⟨rfl,rfl,trivial⟩,trivial,rfl⟩ ?_;refine Wsem.of ttok mixed ?_;refine .inr (.inr (.inr (.inr (.inr (.inl ⟨[0],_,[],_,rfl,List.nodup_cons.2 ⟨by simp,List.nodup_nil⟩,rfl,hR b,?_⟩)))));rintro _ _ _ ⟨rfl,rfl,rfl⟩;exact⟨rfl,rfl,b,rfl⟩
end Go.Proofs.YtgonkhaebmfgiaaGreatDoor
