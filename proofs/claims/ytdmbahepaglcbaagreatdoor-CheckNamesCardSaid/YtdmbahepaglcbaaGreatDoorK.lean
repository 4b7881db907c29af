/- The maker's core: Case. No condition but that the numbers are such. -/
import Derived.Test.YtdmbahepaglcbaaGreatDoorI
set_option linter.unusedSimpArgs false
set_option linter.unusedVariables false
namespace Go.Proofs.YtdmbahepaglcbaaGreatDoor
open Go Fp
set_option maxRecDepth 10000
set_option maxHeartbeats 8000000
set_option linter.unusedVariables false
def zE4 (t:Tp) (ls:List Alg) (p:Cr):AV := .agg [.lit (.int .i64 9),.lit (.int .i64 0),.lit (.string ByteArray.empty),.lit (.int .i64 t.form),.lit (.int .i64 t.num),.lit (.string t.nam),.sl t.eArgs,.sl [eC p],.sl [],.sl (yY ls)]
open Classical in
noncomputable def cnF (n:Nat):ByteArray:=if h:InR (n:Int) then (zDQ h).choose else .empty
theorem zWH {n:Nat} (h:n<100000):zF Tryz.prog 72 [.lit (.int .i64 (n:Nat))] (str (cnF n)):=by
 have hr:InR (n:Int):=by unfold InR;omega
 unfold cnF;rw[dif_pos hr];exact (zDQ hr).choose_spec.2
theorem zbX {n:Nat} (h:n<100000):cnF n∈cn18:=by
 have hr:InR (n:Int):=by unfold InR;omega
 unfold cnF;rw[dif_pos hr];exact (zDQ hr).choose_spec.1
noncomputable def hdF (r k:Nat) (vs:List ByteArray):(Int×Int×ByteArray)×List ByteArray:=if k=1 then ((2,IntKind.i64.wrap ((r:Int).tdiv 14),.empty),[]) else if k=2 then ((3,0,.empty),[]) else ((1,0,cnF (r / 14+k)),vs)
theorem za2 (b:Nat) (l:List Int) (n:Int) (r d:Nat) (hr:r<1000) (hd:d<1000) {t:Tp} {p:Cr} {l0:List Int} (ht:zH6 b l n 1 t l0)
  (st:Nat->List Alg×List Int×Int) (h0:(st 0).1=[]/\zAO b l0 n (d+1) p (st 0).2.1 (st 0).2.2)
  (hst:∀k (hk:k<r / 14 % 4),∃vs q lm,CallsG Tryz.prog (fnv 74) (mkH b (st k).2.1 (st k).2.2) [pt b 0] [] (fun r o h=>r = .sl (eSs vs)/\o=0/\h=mkH b lm (st k).2.2)/\zAO b lm (st k).2.2 (d+1) q (st (k+1)).2.1 (st (k+1)).2.2/\(st (k+1)).1=(st k).1++[((hdF r k vs).1,(hdF r k vs).2,q)])
  (hlen:∀k,k<=r / 14 % 4->(st k).1.length=k):qG b l n r d 11 (.node 9 0 .empty t (lst [p] [] (st (r / 14 % 4)).1)) (st (r / 14 % 4)).2.1 (st (r / 14 % 4)).2.2:=by
 unfold qG;refine Wsem.of ttok mixed ?_;refine⟨fun h=>absurd h (by decide),fun _=>?_⟩;refine⟨fun h=>absurd h (by decide),fun _=>?_⟩;refine⟨fun h=>absurd h (by decide),fun _=>?_⟩;refine⟨fun h=>absurd h (by decide),fun _=>?_⟩;refine⟨fun h=>absurd h (by decide),fun _=>?_⟩;refine⟨fun h=>absurd h (by decide),fun _=>?_⟩;refine⟨fun h=>absurd h (by decide),fun _=>?_⟩;refine⟨fun h=>absurd h (by decide),fun _=>?_⟩;refine⟨fun h=>absurd h (by decide),fun _=>?_⟩;refine⟨fun h=>absurd h (by decide),fun _=>?_⟩;refine⟨fun h=>absurd h (by decide),fun _=>?_⟩;refine⟨fun _=>?_,fun h=>absurd h (by decide)⟩;refine .inr (.inr (.inr (.inr (.inr (.inl ⟨[0],_,[],_,rfl,List.nodup_cons.2 ⟨by simp,List.nodup_nil⟩,rfl,ht,?_⟩)))));rintro _ _ _ ⟨rfl,rfl,rfl⟩;refine .inr (.inr (.inr (.inr (.inr (.inl ⟨[0],_,[],_,rfl,List.nodup_cons.2 ⟨by simp,List.nodup_nil⟩,rfl,xC hd h0.2,?_⟩)))));rintro _ _ _ ⟨rfl,rfl,rfl⟩;refine⟨{k:Nat // k<=r / 14 % 4},fun k=>{vs:=[(0,.v (pt b 0)),(1,sv (d:Nat)),(4,.box 0 eZ),(5,sv (r:Nat)),(14,.box 0 (zE4 t (st k.1).1 p)),(15,sv (k.1:Nat))],ow:=[(14,9,15)],hp:=mkH b (st k.1).2.1 (st k.1).2.2},fun k=>r / 14 % 4-k.1,⟨0,Nat.zero_le _⟩,⟨⟨rfl,rfl,rfl,rfl,?_,rfl,trivial⟩,⟨trivial,trivial⟩,rfl⟩,?_⟩
 ·show SV.box 0 (zE4 t [] p)=SV.box 0 (zE4 t (st 0).1 p);rw[h0.1]
 rintro⟨k,hk⟩;refine⟨by decide,?_⟩;refine⟨by decide,?_⟩;refine⟨fun h=>?_,fun h=>?_⟩
 ·have h:k<r / 14 % 4:=by
   have h:=of_decide_eq_true h;rw[zEU hr] at h;have e:(((r / 14:Nat):Int).tmod 4)=((r / 14 % 4:Nat):Int):=rfl;rw[e] at h;simp only at h;omega
  have hd14:=Nat.div_le_self r 14;have h3:=Nat.mod_lt (r / 14) (show 0<4 by decide);have hk3:k=0∨k=1∨k=2:=by omega
  rcases hk3 with rfl|rfl|rfl
  ·obtain⟨vs,q,lm,g1,g2,g3⟩:=hst 0 h;have hl:=hlen 0 hk;obtain⟨⟨ls,la,na⟩,hs⟩:∃s,s=st 0:=⟨_,rfl⟩
   obtain⟨⟨ls',lb,nb⟩,hs'⟩:∃s,s=st (0+1):=⟨_,rfl⟩
   rw[<-hs] at g1 g2 g3 hl;rw[<-hs'] at g2 g3;simp only at g1 g2 g3 hl;simp only[<-hs];have hcn:zF Tryz.prog 72 [.lit (.int .i64 (IntKind.i64.wrap (IntKind.i64.wrap ((r:Int).tdiv 14)+0)))] (str (cnF (r / 14+0))):=by
    rw[zEU hr,show ((r / 14:Nat):Int)+0=((r / 14+0:Nat):Int) by omega,yH (by omega)];exact zWH (by omega)
   refine⟨by decide,?_⟩;refine .inl ⟨_,hcn,?_⟩;refine .inr (.inr (.inr (.inr (.inr (.inl ⟨[0],_,[],_,rfl,List.nodup_cons.2 ⟨by simp,List.nodup_nil⟩,rfl,g1,?_⟩)))));rintro _ _ _ ⟨rfl,rfl,rfl⟩;refine⟨fun h=>absurd h (by decide),fun _=>?_⟩;refine⟨fun h=>absurd h (by decide),fun _=>?_⟩;refine .inr (.inr (.inr (.inr (.inr (.inl ⟨[0],_,[],_,rfl,List.nodup_cons.2 ⟨by simp,List.nodup_nil⟩,rfl,xC hd g2,?_⟩)))));rintro _ _ _ ⟨rfl,rfl,rfl⟩;refine⟨by show (yY ls).length+1<=_;simp[yY];omega,zHW _,zHW [((hdF r 0 vs).1,(hdF r 0 vs).2,q)],?_⟩;refine⟨⟨0+1,h⟩,by simp;omega,⟨rfl,rfl,rfl,rfl,?_,rfl,trivial⟩,⟨rfl,trivial⟩,?_⟩
   ·have e:yY (st (0+1)).1=yY ls++[eAl ((hdF r 0 vs).1,(hdF r 0 vs).2,q)]:=by rw[<-hs',g3];simp[yY]
    show SV.box 0 (AV.agg [.lit (.int .i64 9),.lit (.int .i64 0),.lit (.string ByteArray.empty),.lit (.int .i64 t.form),.lit (.int .i64 t.num),.lit (.string t.nam),.sl t.eArgs,.sl [eC p],.sl [],.sl (yY ls++[_])])=SV.box 0 (zE4 t (st (0+1)).1 p);unfold zE4;rw[e]
    rfl
   ·show mkH b lb nb=mkH b (st (0+1)).2.1 (st (0+1)).2.2;rw[<-hs']
  ·obtain⟨vs,q,lm,g1,g2,g3⟩:=hst 1 h;have hl:=hlen 1 hk;obtain⟨⟨ls,la,na⟩,hs⟩:∃s,s=st 1:=⟨_,rfl⟩
   obtain⟨⟨ls',lb,nb⟩,hs'⟩:∃s,s=st (1+1):=⟨_,rfl⟩
   rw[<-hs] at g1 g2 g3 hl;rw[<-hs'] at g2 g3;simp only at g1 g2 g3 hl;simp only[<-hs];have hcn:zF Tryz.prog 72 [.lit (.int .i64 (IntKind.i64.wrap (IntKind.i64.wrap ((r:Int).tdiv 14)+1)))] (str (cnF (r / 14+1))):=by
    rw[zEU hr,show ((r / 14:Nat):Int)+1=((r / 14+1:Nat):Int) by omega,yH (by omega)];exact zWH (by omega)
   refine⟨by decide,?_⟩;refine .inl ⟨_,hcn,?_⟩;refine .inr (.inr (.inr (.inr (.inr (.inl ⟨[0],_,[],_,rfl,List.nodup_cons.2 ⟨by simp,List.nodup_nil⟩,rfl,g1,?_⟩)))));rintro _ _ _ ⟨rfl,rfl,rfl⟩;refine⟨fun _=>?_,fun h=>absurd h (by decide)⟩;refine⟨by decide,?_⟩;refine⟨fun h=>absurd h (by decide),fun _=>?_⟩;refine .inr (.inr (.inr (.inr (.inr (.inl ⟨[0],_,[],_,rfl,List.nodup_cons.2 ⟨by simp,List.nodup_nil⟩,rfl,xC hd g2,?_⟩)))));rintro _ _ _ ⟨rfl,rfl,rfl⟩;refine⟨by show (yY ls).length+1<=_;simp[yY];omega,zHW _,zHW [((hdF r 1 vs).1,(hdF r 1 vs).2,q)],?_⟩;refine⟨⟨1+1,h⟩,by simp;omega,⟨rfl,rfl,rfl,rfl,?_,rfl,trivial⟩,⟨rfl,trivial⟩,?_⟩
   ·have e:yY (st (1+1)).1=yY ls++[eAl ((hdF r 1 vs).1,(hdF r 1 vs).2,q)]:=by rw[<-hs',g3];simp[yY]
    show SV.box 0 (AV.agg [.lit (.int .i64 9),.lit (.int .i64 0),.lit (.string ByteArray.empty),.lit (.int .i64 t.form),.lit (.int .i64 t.num),.lit (.string t.nam),.sl t.eArgs,.sl [eC p],.sl [],.sl (yY ls++[_])])=SV.box 0 (zE4 t (st (1+1)).1 p);unfold zE4;rw[e]
    rfl
   ·show mkH b lb nb=mkH b (st (1+1)).2.1 (st (1+1)).2.2;rw[<-hs']
  ·obtain⟨vs,q,lm,g1,g2,g3⟩:=hst 2 h;have hl:=hlen 2 hk;obtain⟨⟨ls,la,na⟩,hs⟩:∃s,s=st 2:=⟨_,rfl⟩
   obtain⟨⟨ls',lb,nb⟩,hs'⟩:∃s,s=st (2+1):=⟨_,rfl⟩
   rw[<-hs] at g1 g2 g3 hl;rw[<-hs'] at g2 g3;simp only at g1 g2 g3 hl;simp only[<-hs];have hcn:zF Tryz.prog 72 [.lit (.int .i64 (IntKind.i64.wrap (IntKind.i64.wrap ((r:Int).tdiv 14)+2)))] (str (cnF (r / 14+2))):=by
    rw[zEU hr,show ((r / 14:Nat):Int)+2=((r / 14+2:Nat):Int) by omega,yH (by omega)];exact zWH (by omega)
   refine⟨by decide,?_⟩;refine .inl ⟨_,hcn,?_⟩;refine .inr (.inr (.inr (.inr (.inr (.inl ⟨[0],_,[],_,rfl,List.nodup_cons.2 ⟨by simp,List.nodup_nil⟩,rfl,g1,?_⟩)))));rintro _ _ _ ⟨rfl,rfl,rfl⟩;refine⟨fun h=>absurd h (by decide),fun _=>?_⟩;refine⟨fun _=>?_,fun h=>absurd h (by decide)⟩;refine .inr (.inr (.inr (.inr (.inr (.inl ⟨[0],_,[],_,rfl,List.nodup_cons.2 ⟨by simp,List.nodup_nil⟩,rfl,xC hd g2,?_⟩)))));rintro _ _ _ ⟨rfl,rfl,rfl⟩;refine⟨by show (yY ls).length+1<=_;simp[yY];omega,zHW _,zHW [((hdF r 2 vs).1,(hdF r 2 vs).2,q)],?_⟩;refine⟨⟨2+1,h⟩,by simp;omega,⟨rfl,rfl,rfl,rfl,?_,rfl,trivial⟩,⟨rfl,trivial⟩,?_⟩
   ·have e:yY (st (2+1)).1=yY ls++[eAl ((hdF r 2 vs).1,(hdF r 2 vs).2,q)]:=by rw[<-hs',g3];simp[yY]
    show SV.box 0 (AV.agg [.lit (.int .i64 9),.lit (.int .i64 0),.lit (.string ByteArray.empty),.lit (.int .i64 t.form),.lit (.int .i64 t.num),.lit (.string t.nam),.sl t.eArgs,.sl [eC p],.sl [],.sl (yY ls++[_])])=SV.box 0 (zE4 t (st (2+1)).1 p);unfold zE4;rw[e]
    rfl
   ·show mkH b lb nb=mkH b (st (2+1)).2.1 (st (2+1)).2.2;rw[<-hs']
 ·have h:k=r / 14 % 4:=by
   have h:=of_decide_eq_false h;rw[zEU hr] at h;have e:(((r / 14:Nat):Int).tmod 4)=((r / 14 % 4:Nat):Int):=rfl;rw[e] at h;simp only at h;omega
  subst h;have ec:zE4 t (st (r / 14 % 4)).1 p=eC (.node 9 0 .empty t (lst [p] [] (st (r / 14 % 4)).1)):=by
   obtain⟨e0,e1,e2⟩:=z3W (⟨9,0,.empty,t,[p],[],(st (r / 14 % 4)).1⟩:Nd);have e0:(Cr.node 9 0 .empty t (lst [p] [] (st (r / 14 % 4)).1)).e3 0=eCs [p]:=e0;have e1:(Cr.node 9 0 .empty t (lst [p] [] (st (r / 14 % 4)).1)).e3 1=yK []:=e1;have e2:(Cr.node 9 0 .empty t (lst [p] [] (st (r / 14 % 4)).1)).e3 2=yY (st (r / 14 % 4)).1:=e2;unfold eC zE4;rw[e0,e1,e2]
   rfl
  exact⟨ec,rfl,rfl⟩
end Go.Proofs.YtdmbahepaglcbaaGreatDoor
