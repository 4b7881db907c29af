/- The names that patterns give: each of a place of its own. No condition. -/
import Derived.Test.YtebmimnglcdogaaGreatDoorX
import Derived.Test.YtebmimnglcdogaaGreatDoorZ
import Derived.Test.YtebmimnglcdogaaGreatDoorAB
import Derived.Test.YtebmimnglcdogaaGreatDoorS
import Derived.Test.YtebmimnglcdogaaGreatDoorD
set_option linter.unusedSimpArgs false
set_option linter.unusedVariables false
namespace Go.Proofs.YtebmimnglcdogaaGreatDoor
open Go Fp
set_option maxRecDepth 10000
set_option maxHeartbeats 16000000
set_option linter.unusedVariables false
set_option linter.unusedSimpArgs false
def dg (n:Nat):ByteArray:=⟨#[UInt8.ofNat (48+n % 10)]⟩
def vN (a:Nat):ByteArray:=⟨#[118]⟩++dg (a / 10)++dg a
theorem z1U (a:Nat):(vN a).size<=4:=by unfold vN;rw[ByteArray.size_append,ByteArray.size_append];show 1+1+1<=4;omega
theorem zIW (a:Nat):bytes (vN a)=[118,UInt8.ofNat (48+a / 10 % 10),UInt8.ofNat (48+a % 10)]:=by unfold vN;rw[wU,wU];rfl
theorem zYG {x y:Nat} (hx:x<10) (hy:y<10) (h:UInt8.ofNat (48+x)=UInt8.ofNat (48+y)):x=y:=by
 have:=congrArg UInt8.toNat h;simp only[UInt8.toNat_ofNat'] at this;omega
theorem z4L {a b:Nat} (ha:a<100) (hb:b<100) (h:vN a=vN b):a=b:=by
 have h:=congrArg bytes h;rw[zIW,zIW] at h;injection h with _ h
 injection h with h1 h
 injection h with h2 _
 have:=zYG (Nat.mod_lt _ (by decide)) (Nat.mod_lt _ (by decide)) h1;have:=zYG (Nat.mod_lt _ (by decide)) (Nat.mod_lt _ (by decide)) h2;omega
theorem z3Y {n:Nat} (h:n<256):IntKind.u8.wrap (n:Int)=n:=by
 simp[IntKind.wrap,IntKind.signed,IntKind.bits];omega
theorem zMJ (n:Nat):zB Tryz.prog zEM [.lit (.int .i64 (n:Nat))] (.lit (.string (dg n))):=by
 have e1:((n:Int).tmod 10)=((n % 10:Nat):Int):=rfl;have e2:IntKind.i64.wrap (48+(n:Int).tmod 10)=((48+n % 10:Nat):Int):=by rw[e1,show (48:Int)+((n % 10:Nat):Int)=((48+n % 10:Nat):Int) by omega];exact yB (by omega)
 have e3:IntKind.u8.wrap (IntKind.i64.wrap (48+(n:Int).tmod 10))=((48+n % 10:Nat):Int):=by rw[e2];exact z3Y (by omega)
 have hb:(IntKind.u8.wrap (IntKind.i64.wrap (48+(n:Int).tmod 10))).toNat=48+n % 10:=by rw[e3];rfl
 refine zD ttok mixed Tryz.func58 rfl (by rfl) (Nat.le_of_ble_eq_true rfl) (by kernel_rfl) ?_;refine⟨by decide,?_⟩;show AV.lit (.string ⟨[UInt8.ofNat (IntKind.u8.wrap (IntKind.i64.wrap (48+(n:Int).tmod 10))).toNat].toArray⟩)=_;rw[hb];rfl
theorem zY0 {l:List Int} {a t d n:Nat} (ha:a<4611686018427387904) (ht:t<5) (hpick:zB Tryz.prog yN [.sl (eIs l),.lit (.int .i64 (a:Nat))] (.lit (.int .i64 (n:Nat))))
  (h0:¬(n % 5=0∨d=0/\0<t)) (h1:n % 5=1) :
  zB Tryz.prog zX [.sl (eIs l),.lit (.int .i64 (a:Nat)),.lit (.int .i64 (t:Nat)),.lit (.int .i64 (d:Nat))] (.tup [ePt (.mk 2 0 (vN a) (wTy t) [] []),.lit (.int .i64 ((a+1:Nat):Int))]):=by
 have hw:=yR t ht;have m5:((n:Int).tmod 5)=((n % 5:Nat):Int):=rfl;have hc1:=zMJ (a / 10);have hc2:=zMJ a;have ew:IntKind.i64.wrap ((a:Int).tdiv 10)=((a / 10:Nat):Int):=by rw[show ((a:Int).tdiv 10)=((a / 10:Nat):Int) by simp];exact yB (by omega)
 rw[<-ew] at hc1;rw[<-wrap_succ (k:=a) (by omega)];refine zD ttok mixed Tryz.func21 rfl (by rfl) (Nat.le_of_ble_eq_true rfl) (by kernel_rfl) ?_;refine .inl ⟨_,hpick,.inl ⟨_,hw,?_⟩⟩;refine⟨by decide,?_⟩;refine⟨fun h=>?_,fun h=>by simp at h;omega⟩;refine⟨fun h=>?_,fun h=>?_⟩
 ·refine⟨fun h'=>?_,fun h'=>?_⟩
  ·simp at h h';omega
  ·refine⟨by decide,⟨fun _=>?_,fun h=>by simp at h;omega⟩⟩;refine⟨by decide,.inl ⟨_,hc1,?_⟩⟩;refine⟨by show 1+1<=_;omega,.inl ⟨_,hc2,?_⟩⟩;refine⟨by rw[ByteArray.size_append];show 1+1+1<=_;omega,?_⟩;exact rfl
 ·refine⟨by decide,⟨fun _=>?_,fun h=>by simp at h;omega⟩⟩;refine⟨by decide,.inl ⟨_,hc1,?_⟩⟩;refine⟨by show 1+1<=_;omega,.inl ⟨_,hc2,?_⟩⟩;refine⟨by rw[ByteArray.size_append];show 1+1+1<=_;omega,?_⟩;exact rfl
theorem zI6 {l:List Int} {k:Nat} (hr:∀x∈l,InR x):∃r:Nat,r<9223372036854775808/\zB Tryz.prog yN [.sl (eIs l),.lit (.int .i64 (k:Nat))] (.lit (.int .i64 (r:Nat)))/\(l.length<=k->r=0):=by
 by_cases hk:l.length<=k
 ·refine⟨0,by decide,?_,fun _=>rfl⟩;refine zD ttok mixed Tryz.func57 rfl (by rfl) (Nat.le_of_ble_eq_true rfl) (by kernel_rfl) ?_;refine⟨fun _=>rfl,fun h'=>?_⟩;simp[eIs] at h';omega
 ·obtain⟨r,h1,h2⟩:=zV5 (l:=l) (k:=k) hr;exact⟨r,h1,h2,fun h=>absurd h hk⟩
def zR6 (l:List Int) (a nx:Nat) (p:Pt):Prop := ∃ws:List Nat,names p=ws.map vN/\ws.Pairwise (· < ·)/\(∀x∈ws,a<=x/\x<nx/\x<l.length)/\a<=nx
theorem zMA {l:List Int} {a nx:Nat} {p:Pt} (h:names p=[]) (hn:a<=nx):zR6 l a nx p:=⟨[],by rw[h];rfl,by simp,by simp,hn⟩
theorem zLI {l:List Int} {P:Nat->Nat->Pt} {N:Nat->Nat->Nat} {c:Nat} (h:∀a t,a+c<4611686018427387904->t<5->N a t<=a+c/\zR6 l a (N a t) (P a t)) :
  ∀(fs:List Nat) (a:Nat),(∀u∈fs,u<5)->a+fs.length*c<4611686018427387904->∃ws:List Nat,yD (stp P N fs a).1=ws.map vN/\ws.Pairwise (· < ·)/\(∀x∈ws,a<=x/\x<(stp P N fs a).2/\x<l.length)/\a<=(stp P N fs a).2
 | [],a,_,_=>⟨[],by simp[stp,yD],by simp,by simp,by simp[stp]⟩
 | v::fs,a,h5,hb=>by
  have e1:(v::fs).length*c=c+fs.length*c:=by rw[List.length_cons,Nat.add_mul,Nat.one_mul,Nat.add_comm]
  rw[e1] at hb;obtain⟨h1,ws,n1,n2,n3,n4⟩:=h a v (by omega) (h5 v (by simp));obtain⟨bs,k1,k2,k3,k4⟩:=zLI h fs (N a v) (fun u hu=>h5 u (by simp[hu])) (by omega);refine⟨ws++bs,?_,?_,fun x hx=>?_,?_⟩
  ·simp only[stp];rw[yD,n1,k1,List.map_append]
  ·rw[List.pairwise_append];exact⟨n2,k2,fun x hx y hy=>by have:=n3 x hx;have:=k3 y hy;omega⟩
  ·simp only[stp];rcases List.mem_append.1 hx with hx|hx
   ·have:=n3 x hx;omega
   ·have:=k3 x hx;omega
  ·simp only[stp];omega
def NmP (p:Pt):Prop:=(names p).Nodup/\∀s∈names p,∃r,bytes s=118::r
theorem z4V {l:List Int} {a nx:Nat} {p:Pt} (h:zR6 l a nx p) (hl:l.length<=40):NmP p:=by
 obtain⟨ws,h1,h2,h3,_⟩:=h;refine⟨?_,fun s hs=>?_⟩
 ·rw[h1];unfold List.Nodup;rw[List.pairwise_map];refine (List.Pairwise.and_mem.1 h2).imp fun⟨hx,hy,hlt⟩ e=>?_;have:=z4L (by have:=h3 _ hx;omega) (by have:=h3 _ hy;omega) e;omega
 ·rw[h1] at hs;obtain⟨x,_,rfl⟩:=List.mem_map.1 hs;exact⟨_,zIW x⟩
theorem zTY {P:Nat->Nat->Pt} {N:Nat->Nat->Nat} {Q:Pt->Prop} {c:Nat} (h:∀a t,a+c<4611686018427387904->t<5->N a t<=a+c/\Q (P a t)):∀(fs:List Nat) (a:Nat),(∀u∈fs,u<5)->a+fs.length*c<4611686018427387904->∀p∈(stp P N fs a).1,Q p
 | [],a,_,_,p,hp=>by simp[stp] at hp
 | v::fs,a,h5,hb,p,hp=>by
  have e1:(v::fs).length*c=c+fs.length*c:=by rw[List.length_cons,Nat.add_mul,Nat.one_mul,Nat.add_comm]
  rw[e1] at hb;obtain⟨h2,h3⟩:=h a v (by omega) (h5 v (by simp));rcases List.mem_cons.1 hp with rfl|hp
  ·exact h3
  ·exact zTY h fs (N a v) (fun u hu=>h5 u (by simp[hu])) (by omega) p hp
theorem zP9 {l:List Int} (hr:∀x∈l,InR x):∀(d:Nat),d<=3->∀(a t:Nat),a+cap d<4611686018427387904->t<5 ->
  ∃p nx,zB Tryz.prog zX [.sl (eIs l),.lit (.int .i64 (a:Nat)),.lit (.int .i64 (t:Nat)),.lit (.int .i64 (d:Nat))] (.tup [ePt p,.lit (.int .i64 (nx:Nat))])/\TyP t p/\nx<=a+cap d/\p.sz<=cap d/\zR6 l a nx p:=by
 have c1:∀d,1<=cap d:=fun d=>by cases d<;>simp[cap]
 have base:∀(d a t n:Nat),a+cap d<4611686018427387904->t<5->n<9223372036854775808->zB Tryz.prog yN [.sl (eIs l),.lit (.int .i64 (a:Nat))] (.lit (.int .i64 (n:Nat)))->(l.length<=a->n=0) ->
   (n % 5=0∨n % 5=1∨t=0∨d=0)->∃p nx,zB Tryz.prog zX [.sl (eIs l),.lit (.int .i64 (a:Nat)),.lit (.int .i64 (t:Nat)),.lit (.int .i64 (d:Nat))] (.tup [ePt p,.lit (.int .i64 (nx:Nat))])/\TyP t p/\nx<=a+cap d/\p.sz<=cap d/\zR6 l a nx p:=by
  intro d a t n ha ht hn hp hz hc;have:=c1 d;by_cases h0:n % 5=0∨d=0/\0<t
  ·exact⟨_,_,zXP (by omega) ht hp h0,.any _ _ (.inl rfl) rfl (fun h=>by cases h),by omega,by simp[Pt.sz,szL];omega,zMA (by rw[names];simp[yD]) (by omega)⟩
  by_cases h1:n % 5=1
  ·have hq:=zY0 (by omega) ht hp h0 h1;have hal:a<l.length:=by rcases Nat.lt_or_ge a l.length with h|h;exact h;have:=hz h;omega
   exact⟨_,_,hq,.any _ _ (.inr rfl) rfl (fun _=>⟨z1U a,rfl⟩),by omega,by simp[Pt.sz,szL];omega,[a],by rw[names];simp,by simp,fun x hx=>by simp at hx;omega,by omega⟩
  have ht0:t=0:=by omega
  subst ht0;exact⟨_,_,z04 (by omega) hp hn (by omega) h1,.int _ rfl rfl ⟨by simp[Pt.n];omega,by simp[Pt.n];omega⟩,by omega,by simp[Pt.sz,szL];omega,zMA (by rw[names];simp[yD]) (by omega)⟩
 intro d;induction d with
 | zero =>
  intro _ a t ha ht;obtain⟨n,hn,hp,hz⟩:=zI6 (l:=l) (k:=a) hr;exact base 0 a t n ha ht hn hp hz (.inr (.inr (.inr rfl)))
 | succ d ih =>
  intro hd a t ha ht;obtain⟨n,hn,hp,hz⟩:=zI6 (l:=l) (k:=a) hr;by_cases hb:n % 5=0∨n % 5=1∨t=0
  ·exact base (d+1) a t n ha ht hn hp hz (by omega)
  have h0:0<t:=by omega
  have ih':=ih (by omega);have hlen:=zL6 h0 ht;have hk:n / 5 % (zO t).length<(zO t).length:=Nat.mod_lt _ hlen.1;let P:Nat->Nat->Pt:=fun a t=>if h:a+cap d<4611686018427387904/\t<5 then (ih' a t h.1 h.2).choose else wJ
  let N:Nat->Nat->Nat:=fun a t=>if h:a+cap d<4611686018427387904/\t<5 then (ih' a t h.1 h.2).choose_spec.choose else 0
  have hPN:∀a t,a+cap d<4611686018427387904->t<5->zB Tryz.prog zX [.sl (eIs l),.lit (.int .i64 (a:Nat)),.lit (.int .i64 (t:Nat)),.lit (.int .i64 (d:Nat))] (.tup [ePt (P a t),.lit (.int .i64 (N a t:Nat))])/\TyP t (P a t)/\N a t<=a+cap d/\(P a t).sz<=cap d/\zR6 l a (N a t) (P a t):=fun a t h1 h2=>by
   have:=(ih' a t h1 h2).choose_spec.choose_spec;simp only[P,N,dif_pos (show a+cap d<4611686018427387904/\t<5 from⟨h1,h2⟩)];exact this
  have hc:=z2H (P:=P) (N:=N) (d:=d) (by simpa[cap] using ha) h0 ht hp hn (by omega) (by omega) (by omega) (fun a t h1 h2=>(hPN a t h1 h2).1) (fun a t h1 h2=>⟨(hPN a t h1 h2).2.1,(hPN a t h1 h2).2.2.1,(hPN a t h1 h2).2.2.2.1⟩) rfl hk;have hfs:=wQ (List.getElem_mem hk);have hm2:(zO t)[n / 5 % (zO t).length].2.length*cap d<=2*cap d:=Nat.mul_le_mul_right _ hfs.1;obtain⟨s1,s2,s3,s4⟩:=zD3 (P:=P) (N:=N) (c:=cap d) (fun a t h1 h2=>⟨(hPN a t h1 h2).2.1,(hPN a t h1 h2).2.2.1,(hPN a t h1 h2).2.2.2.1⟩) (zO t)[n / 5 % (zO t).length].2 (a+1) hfs.2.1 (by simp[cap] at ha;omega);refine⟨_,_,hc,.con t _ _ rfl (List.getElem_mem hk) s1 s2,by simp only[cap];omega,by simp only[Pt.sz,cap];omega,?_⟩;obtain⟨ws,n1,n2,n3,n4⟩:=zLI (P:=P) (N:=N) (c:=cap d) (l:=l) (fun a t h1 h2=>⟨(hPN a t h1 h2).2.2.1,(hPN a t h1 h2).2.2.2.2⟩) (zO t)[n / 5 % (zO t).length].2 (a+1) hfs.2.1 (by simp[cap] at ha;omega);exact⟨ws,by rw[names,if_neg (by decide)];exact n1,n2,fun x hx=>by have:=n3 x hx;omega,by omega⟩
theorem zYY {l:List Int} (hr:∀x∈l,InR x) (hl:l.length<9223372036854775808):∃ps t,zB Tryz.prog zFT [.sl (eIs l)] (.tup [.sl (zM ps),.lit (.int .i64 (t:Nat))])/\t<5/\ps.length<=5/\(∀p∈ps,TyP t p/\p.sz<=15)/\∀p∈ps,NmP p:=by
 have hr':∀x∈l.take 40,InR x:=fun x hx=>hr x (List.mem_of_mem_take hx);obtain⟨n,hn,hp⟩:=zVC (l:=l.take 40) (k:=0) hr';have pat:=zP9 hr' 3 (by decide);let P:Nat->Nat->Pt:=fun a t=>if h:a+cap 3<4611686018427387904/\t<5 then (pat a t h.1 h.2).choose else wJ
 let N:Nat->Nat->Nat:=fun a t=>if h:a+cap 3<4611686018427387904/\t<5 then (pat a t h.1 h.2).choose_spec.choose else 0
 have hPN:∀a t,a+cap 3<4611686018427387904->t<5->zB Tryz.prog zX [.sl (eIs (l.take 40)),.lit (.int .i64 (a:Nat)),.lit (.int .i64 (t:Nat)),.lit (.int .i64 (3:Nat))] (.tup [ePt (P a t),.lit (.int .i64 (N a t:Nat))])/\TyP t (P a t)/\N a t<=a+cap 3/\(P a t).sz<=cap 3/\zR6 (l.take 40) a (N a t) (P a t):=fun a t h1 h2=>by
  have:=(pat a t h1 h2).choose_spec.choose_spec;simp only[P,N,dif_pos (show a+cap 3<4611686018427387904/\t<5 from⟨h1,h2⟩)];exact this
 have c3:cap 3=15:=rfl;obtain⟨t,ht⟩:∃t,t=n % 5:=⟨_,rfl⟩
 obtain⟨m,hm⟩:∃m,m=n / 5 % 6:=⟨_,rfl⟩
 have facts:=fun k=>zD3 (P:=P) (N:=N) (c:=15) (fun a t h1 h2=>⟨(hPN a t h1 h2).2.1,(hPN a t h1 h2).2.2.1,(hPN a t h1 h2).2.2.2.1⟩) (List.replicate k t) 1 (fun u hu=>by rw[(List.mem_replicate.1 hu).2];omega);refine⟨(stp P N (List.replicate m t) 1).1,t,?_,by omega,?_,?_,?_⟩
 ·have w5:IntKind.i64.wrap ((n:Int).tdiv 5)=((n / 5:Nat):Int):=by rw[show ((n:Int).tdiv 5)=((n / 5:Nat):Int) by simp];exact yB (by omega)
  have w6:(IntKind.i64.wrap ((n:Int).tdiv 5)).tmod 6=(m:Int):=by rw[w5,hm];rfl
  have m5:((n:Int).tmod 5)=(t:Int):=by rw[ht];rfl
  refine zD ttok mixed Tryz.func5 rfl (by rfl) (Nat.le_of_ble_eq_true rfl) (by kernel_rfl) ?_;have inv:∀(F:(α:Type)->(α->Fr)->(α->Nat)->α->Prop),F {i:Nat // i<=m} (fun i=>{vs:=[(0,.v (.sl (eIs (l.take 40)))),(4,.v (.lit (.int .i64 (t:Nat)))),(5,.v (.lit (.int .i64 ((stp P N (List.replicate i.1 t) 1).2:Nat)))),(6,.v (.sl (zM (stp P N (List.replicate i.1 t) 1).1))),(7,.v (.lit (.int .i64 (i.1:Nat))))],ow:=[(6,0,11)]})
   (fun i=>m-i.1) ⟨0,Nat.zero_le _⟩->∃α I μ y,F α I μ y:=fun F h=>⟨_,_,_,_,h⟩
  have l0:(0:Int)=((0:Nat):Int):=rfl;refine⟨fun h=>?_,fun h=>?_⟩
  ·have h:40<l.length:=by simp[eIs] at h;omega
   have hdr:List.drop (Int.toNat 0) (List.take (Int.toNat 40) (eIs l))=eIs (l.take 40):=by simp[eIs]
   have hp':=hp;rw[<-hdr] at hp';refine⟨by decide,by decide,by simp[eIs];omega,.inl rfl,?_⟩;refine .inl ⟨_,hp',?_⟩;refine⟨by decide,?_⟩;refine inv _ ⟨⟨⟨congrArg (fun l=>SV.v (AV.sl l)) hdr,congrArg (fun l=>SV.v (AV.lit (Value.int .i64 l))) m5,rfl,rfl,rfl,trivial⟩,⟨trivial,trivial⟩,rfl⟩,?_⟩;rintro⟨i,hi⟩;refine .inl ⟨_,hp,?_⟩;refine⟨by decide,by decide,?_⟩;refine⟨fun h=>?_,fun h=>?_⟩
   ·have h:=of_decide_eq_true h;simp only at h;rw[w6] at h;have h:i<m:=by omega
    have st:=facts i (by simp;omega);have hb:(stp P N (List.replicate i t) 1).2<=1+i*15:=by simpa using st.2.2.1
    have hc:=(hPN (stp P N (List.replicate i t) 1).2 t (by omega) (by omega)).1;refine .inl ⟨_,hc,?_⟩;refine⟨by rw[zFU,st.1];simp;omega,zJV _,wW (f:=ePt) (fun _=>rfl) [_],?_⟩;have hs:=zBP (P:=P) (N:=N) t (List.replicate i t) 1;rw[<-List.replicate_succ'] at hs;refine⟨⟨i+1,h⟩,by simp;omega,⟨rfl,rfl,?_,?_,?_,trivial⟩,⟨rfl,trivial⟩,rfl⟩
    ·show _=SV.v (AV.lit (Value.int .i64 ((stp P N (List.replicate (i+1) t) 1).2:Nat)));rw[hs];rfl
    ·show _=SV.v (AV.sl (zM (stp P N (List.replicate (i+1) t) 1).1));rw[hs,show zM ((stp P N (List.replicate i t) 1).1++[P (stp P N (List.replicate i t) 1).2 t])=zM (stp P N (List.replicate i t) 1).1++[ePt (P (stp P N (List.replicate i t) 1).2 t)] by simp[zM]]
     rfl
    ·exact congrArg (fun l=>SV.v (AV.lit (Value.int .i64 l))) (wrap_succ (k:=i) (by omega))
   ·have h:=of_decide_eq_false h;simp only at h;rw[w6] at h;have h:i=m:=by omega
    subst h;exact rfl
  ·have h:¬40<l.length:=by simp[eIs] at h;omega
   have hdr:l.take 40=l:=List.take_of_length_le (by omega);have hp':=hp;rw[hdr] at hp';refine .inl ⟨_,hp',?_⟩;refine⟨by decide,?_⟩;refine inv _ ⟨⟨⟨by rw[hdr];exact rfl,congrArg (fun l=>SV.v (AV.lit (Value.int .i64 l))) m5,rfl,rfl,rfl,trivial⟩,⟨trivial,trivial⟩,rfl⟩,?_⟩;rintro⟨i,hi⟩;refine .inl ⟨_,hp,?_⟩;refine⟨by decide,by decide,?_⟩;refine⟨fun h=>?_,fun h=>?_⟩
   ·have h:=of_decide_eq_true h;simp only at h;rw[w6] at h;have h:i<m:=by omega
    have st:=facts i (by simp;omega);have hb:(stp P N (List.replicate i t) 1).2<=1+i*15:=by simpa using st.2.2.1
    have hc:=(hPN (stp P N (List.replicate i t) 1).2 t (by omega) (by omega)).1;refine .inl ⟨_,hc,?_⟩;refine⟨by rw[zFU,st.1];simp;omega,zJV _,wW (f:=ePt) (fun _=>rfl) [_],?_⟩;have hs:=zBP (P:=P) (N:=N) t (List.replicate i t) 1;rw[<-List.replicate_succ'] at hs;refine⟨⟨i+1,h⟩,by simp;omega,⟨rfl,rfl,?_,?_,?_,trivial⟩,⟨rfl,trivial⟩,rfl⟩
    ·show _=SV.v (AV.lit (Value.int .i64 ((stp P N (List.replicate (i+1) t) 1).2:Nat)));rw[hs];rfl
    ·show _=SV.v (AV.sl (zM (stp P N (List.replicate (i+1) t) 1).1));rw[hs,show zM ((stp P N (List.replicate i t) 1).1++[P (stp P N (List.replicate i t) 1).2 t])=zM (stp P N (List.replicate i t) 1).1++[ePt (P (stp P N (List.replicate i t) 1).2 t)] by simp[zM]]
     rfl
    ·exact congrArg (fun l=>SV.v (AV.lit (Value.int .i64 l))) (wrap_succ (k:=i) (by omega))
   ·have h:=of_decide_eq_false h;simp only at h;rw[w6] at h;have h:i=m:=by omega
    subst h;exact rfl
 ·have:=facts m (by simp;omega);rw[this.1];simp;omega
 ·intro p hp;have:=facts m (by simp;omega);obtain⟨i,hi⟩:=List.getElem?_of_mem hp;have hlt:=(List.getElem?_eq_some_iff.1 hi).1;rw[this.1] at hlt;have h2:=this.2.1 i p t hi (by rw[List.getElem?_replicate,if_pos (by simpa using hlt)]);refine⟨h2,?_⟩;exact zPT (fun a t h1 h2=>⟨(hPN a t h1 h2).2.2.1,(hPN a t h1 h2).2.2.2.1⟩) _ 1 (fun u hu=>by rw[(List.mem_replicate.1 hu).2];omega) (by simp;omega) p hp
 ·exact zTY (Q:=NmP) (c:=15) (fun a t h1 h2=>⟨(hPN a t h1 h2).2.2.1,z4V (hPN a t h1 h2).2.2.2.2 (by rw[List.length_take];omega)⟩) _ 1 (fun u hu=>by rw[(List.mem_replicate.1 hu).2];omega) (by simp;omega)
abbrev sS:ByteArray:=⟨#[115]⟩
def ct0 (t:Nat):Ct:=fun x=>if x=sS then some t else none
theorem inv0 (t:Nat):Inv (ct0 t) [(sS,wTy t)] [sS] [t]:=by
 refine⟨rfl,by simp,fun i s u h1 h2=>?_,fun s j hj h=>?_,fun s h=>?_,fun q hq=>?_⟩
 ·match i with
  | 0 =>
   cases h1;cases h2
   refine⟨if_pos rfl,by simp,fun j hj=>if_neg fun e=>zLN e⟩
  | i+1=>simp at h1
 ·exfalso;apply h;exact if_neg fun e=>zLN e
 ·unfold ct0 at h;by_cases e:s=sS
  ·exact⟨[],by rw[e];rfl⟩
  ·rw[if_neg e] at h;exact absurd rfl h
 ·simp at hq;subst hq;exact .inr ⟨t,if_pos rfl,rfl⟩
theorem row0 (t:Nat) {ps:List Pt} (hn:∀p∈ps,NmP p):∀r∈zI 0 ps,RowN (ct0 t) [(sS,wTy t)] r:=fun r hr=>by
 obtain⟨k,hk⟩:=List.getElem?_of_mem hr;rw[zAI] at hk;cases hp:ps[k]? with
 | none=>rw[hp] at hk;cases hk
 | some p =>
  rw[hp] at hk;simp only[Option.map_some,Option.some.injEq] at hk;subst hk;obtain⟨h1,h2⟩:=hn p (List.mem_of_getElem? hp);have hnm:yD [p]=names p:=by rw[yD,yD,List.append_nil]
  refine⟨fun q hq=>by simp at hq,?_,?_⟩
  ·show ([]++yD [p]).Nodup;rw[List.nil_append,hnm];exact h1
  ·intro s hs;have hs:s∈[]++yD [p]:=hs;rw[List.nil_append,hnm] at hs;exact h2 s hs
theorem zSM {flds:List Ck.Fd} (hF:zJ8 flds) (hfl:flds.length<1000) (b:Nat->Int) {t:Nat} {ps:List Pt} (hok:PatsOk t ps) (hn:∀p∈ps,NmP p) :
  Ck.OfS (.of flds []) (Ck.lamC sS (wTy t) (toC (wTy 0) (made b 300 (zI 0 ps) [sS]))) (Ck.funT (wTy 0) [wTy t])/\Ck.OwnOk (toC (wTy 0) (made b 300 (zI 0 ps) [sS])):=by
 have h1:=zQW hF hfl b 300 (zI 0 ps) [t] [sS] (ct0 t) [(sS,wTy t)] hok.all (inv0 t) (row0 t hn) (by simp);have h2:=zW6 b 300 (zI 0 ps) [t] [sS] (ct0 t) [(sS,wTy t)] hok.all (inv0 t) (row0 t hn) (by simp);refine⟨?_,h2.own⟩;have hL:=Ck.kLam_ok (w := .of flds []) (c:=Ck.lamC sS (wTy t) (toC (wTy 0) (made b 300 (zI 0 ps) [sS]))) (K:=0) rfl (zFG t) (by show 0<100000;omega) (t:=wTy 0) (by
  have e:(Ck.Wd.of flds []).more [(sS,(Ck.Wd.of flds []).mean (wTy t))]=wOf flds [(sS,wTy t)]:=by
   have:(Ck.Wd.of flds []).mean (wTy t)=wTy t:=zB2 flds [] t;rw[this];rfl
  show Ck.OfS ((Ck.Wd.of flds []).more [(sS,(Ck.Wd.of flds []).mean (wTy t))]) _ _;rw[e];exact h1)
 have e2:(Ck.Wd.of flds []).mean (wTy t)=wTy t:=zB2 flds [] t;have hL2:zB Tryz.prog 103 [Ck.eW (.of flds []),Ck.eC (Ck.lamC sS (wTy t) (toC (wTy 0) (made b 300 (zI 0 ps) [sS])))] (eTy (Ck.funT (wTy 0) [wTy t])):=by
  have hL:zB Tryz.prog 103 _ (eTy (Ck.funT (wTy 0) [(Ck.Wd.of flds []).mean (wTy t)])):=hL;rw[e2] at hL;exact hL
 exact Ck.of_ok (j:=4) rfl rfl rfl hL2
theorem zQ2 {t:Nat} (ht:t<5):Ck.FitX 0 (Ck.funT (wTy 0) [wTy t]) []/\Ck.smb (Ck.funT (wTy 0) [wTy t]) (Ck.funT (wTy 0) [wTy t]) [] []=true/\Ck.dp (Ck.funT (wTy 0) [wTy t])<1000000000:=by
 match t,ht with
 | 0,_=>exact⟨⟨⟨[],by simp,by decide,by simp⟩,by decide,by decide,by simp⟩,by decide,by decide⟩
 | 1,_=>exact⟨⟨⟨[],by simp,by decide,by simp⟩,by decide,by decide,by simp⟩,by decide,by decide⟩
 | 2,_=>exact⟨⟨⟨[],by simp,by decide,by simp⟩,by decide,by decide,by simp⟩,by decide,by decide⟩
 | 3,_=>exact⟨⟨⟨[],by simp,by decide,by simp⟩,by decide,by decide,by simp⟩,by decide,by decide⟩
 | 4,_=>exact⟨⟨⟨[],by simp,by decide,by simp⟩,by decide,by decide,by simp⟩,by decide,by decide⟩
def bId:Nat->Int:=fun k=>(k:Int)
theorem zZA (n:Nat):∀(k:Nat) (x:Int),(upto n)[k]? = some x->bId k=x:=fun k x h=>by
 have hk:=(List.getElem?_eq_some_iff.1 h).1;rw[zJM] at hk;rw[zZE hk] at h;injection h
theorem zR7 {flds:List Ck.Fd} (hFl:zB Tryz.prog 16 [cAV] (.sl (Ck.eFds flds))) (hF:zJ8 flds) (hfl:flds.length<1000) {l:List Int} (hl:l.length<9223372036854775808) (hr:∀x∈l,InR x):zB Tryz.prog 4 [.sl (eIs l)] (.sb true):=by
 obtain⟨ps,t,hP,ht,hlen,hps,hnm⟩:=zYY hr hl;have hok:PatsOk t ps:=⟨ht,by omega,hps⟩
 have hB:=zVH ps.length (by omega);have hlp:(zM ps).length=ps.length:=zFU ps;rw[<-hlp] at hB;have hT:=zHI t ht;have hT0:=zHI 0 (by decide);have hC:=zQV (wTy 0) (wTy t) sS (by decide) hok bId (upto (zM ps).length) (by rw[zJM,hlp]) (zZA _);obtain⟨hOf,hOwn⟩:=zSM hF hfl bId hok hnm;have hLam:=Ck.lam18_ok (s:=sS) (zII t) hOwn;rw[z3P] at hLam;obtain⟨f1,f2,f3⟩:=zQ2 ht;have hTy:=Ck.type_some hOf f1;have hFun:=Ck.funT_ok (wTy 0) [wTy t] (by simp);have hSame:=Ck.sameTX_ok (Ck.funT (wTy 0) [wTy t]) (Ck.funT (wTy 0) [wTy t]) f3;rw[f2] at hSame;generalize hX:made bId 300 (zI 0 ps) [sS]=X at hC hLam hTy;refine zBG ttok mixed Tryz.func4 rfl (by rfl) (Nat.le_of_ble_eq_true rfl) (by kernel_rfl) ?_;refine Wsem.seq ttok mixed ?_;refine Wsem.seq ttok mixed ?_;refine .inl ⟨_,hP,?_⟩;refine Wsem.seq ttok mixed ?_;refine .inl ⟨_,zKT,.inl ⟨_,zZ4,?_⟩⟩;refine Wsem.seq ttok mixed ?_;refine .inl ⟨_,hT,?_⟩;refine .inl ⟨_,hB,?_⟩;refine .inl ⟨_,hT0,?_⟩;refine .inl ⟨_,hC,?_⟩;refine Wsem.seq ttok mixed ?_;refine .inl ⟨_,hFl,?_⟩;refine .inl ⟨_,hT,?_⟩;refine .inl ⟨_,hLam,?_⟩;refine .inl ⟨_,hTy,?_⟩;refine⟨by kernel_rfl,?_⟩;refine Wsem.of ttok mixed ?_;refine⟨fun hbs=>?_,fun hbs=>?_⟩<;>first|(exfalso;revert hbs;decide)|skip
 refine .inl ⟨_,hT0,?_⟩;refine .inl ⟨_,hT,?_⟩;refine .inl ⟨_,hFun,?_⟩;refine .inl ⟨_,hSame,?_⟩;refine⟨fun hbs=>?_,fun hbs=>?_⟩<;>first|(exfalso;revert hbs;decide)|skip
 refine .inl ⟨_,zXI,?_⟩;refine⟨by kernel_rfl,?_⟩;exact rfl
abbrev tLa:Tp := .app (.con sL) (.var sa)
def flds:List Ck.Fd:=[⟨zJ5,0,2,0,.con zAW⟩,⟨zO5,1,2,0,.con zAW⟩,⟨sN,0,2,0,.all sa tLa⟩,⟨sC,1,2,2,.all sa (Ck.funT tLa [.var sa,tLa])⟩,⟨sA,0,3,0,.con sT⟩,⟨sB,1,3,2,Ck.funT (.con sT) [.con zKZ,.con zAW]⟩,⟨sD,2,3,1,Ck.funT (.con sT) [.con sT]⟩]
theorem zVX {x:Tp} {ps:Ck.Env'} (h1:∀s∈Ck.fv x,s=sa) (h2:∀p∈ps,Ck.fv p.2=[]/\Ck.dp p.2=0) (h3:Ck.dp x=0) (h4:ps.length<=3):Ck.FitX 10 x ps :=
 ⟨⟨[sa],by simp,fun s hs=>by rw[h1 s hs];simp,fun p hp s hs=>by rw[(h2 p hp).1] at hs;simp at hs⟩,by rw[h3];omega,by rw[h3];omega,fun p hp=>by rw[(h2 p hp).2];omega⟩
theorem z4F:zJ8 flds:=by
 intro t s us h
 match t with
 | 0=>simp[zO] at h
 | 1 =>
  simp[zO] at h;rcases h with⟨rfl,rfl⟩|⟨rfl,rfl⟩
  ·exact⟨_,_,_,_,rfl,rfl,by decide,by decide,rfl,rfl,rfl,by decide,rfl,fun x hx=>by cases hx⟩
  ·exact⟨_,_,_,_,rfl,rfl,by decide,by decide,rfl,rfl,rfl,by decide,rfl,fun x hx=>by cases hx⟩
 | 2 =>
  simp[zO] at h;rcases h with⟨rfl,rfl⟩|⟨rfl,rfl⟩
  ·exact⟨_,_,_,_,rfl,rfl,by decide,by decide,rfl,rfl,rfl,by decide,rfl,fun x hx=>by cases hx⟩
  ·refine⟨⟨sC,1,2,2,.all sa (Ck.funT tLa [.var sa,tLa])⟩,[.var sa,tLa],sL,[sa],rfl,rfl,by decide,by decide,rfl,rfl,rfl,by decide,by simp[Ck.sub,Ck.look,Ck.bys,Ck.spAr,wTy],fun x hx=>?_⟩;rcases List.mem_cons.1 hx with rfl|hx
   ·exact zVX (fun s hs=>by simpa[Ck.fv] using hs) (fun p hp=>by simp[Ck.bys,Ck.spAr,wTy] at hp;subst hp;exact⟨by simp[Ck.fv],rfl⟩) rfl (Nat.le_trans (by rw[List.length_zip];exact Nat.min_le_left _ _) (show [sa].length<=3 by decide))
   ·rw[List.mem_singleton.1 hx];exact zVX (fun s hs=>by simpa[Ck.fv,Ck.insAll,Ck.no,Ck.ins] using hs) (fun p hp=>by simp[Ck.bys,Ck.spAr,wTy] at hp;subst hp;exact⟨by simp[Ck.fv],rfl⟩) rfl (Nat.le_trans (by rw[List.length_zip];exact Nat.min_le_left _ _) (show [sa].length<=3 by decide))
 | 3 =>
  simp[zO] at h;rcases h with⟨rfl,rfl⟩|⟨rfl,rfl⟩|⟨rfl,rfl⟩
  ·exact⟨_,_,_,_,rfl,rfl,by decide,by decide,rfl,rfl,rfl,by decide,rfl,fun x hx=>by cases hx⟩
  ·refine⟨_,_,_,_,rfl,rfl,by decide,by decide,rfl,rfl,rfl,by decide,rfl,fun x hx=>?_⟩;have:∃n,x = .con n:=by simp at hx;rcases hx with rfl|rfl<;>exact⟨_,rfl⟩
   obtain⟨n,rfl⟩:=this;exact zVX (fun s hs=>by simp[Ck.fv] at hs) (fun p hp=>by simp[Ck.bys] at hp) rfl (by simp[Ck.bys])
  ·refine⟨_,_,_,_,rfl,rfl,by decide,by decide,rfl,rfl,rfl,by decide,rfl,fun x hx=>?_⟩;have:∃n,x = .con n:=by simp at hx;exact⟨_,hx⟩
   obtain⟨n,rfl⟩:=this;exact zVX (fun s hs=>by simp[Ck.fv] at hs) (fun p hp=>by simp[Ck.bys] at hp) rfl (by simp[Ck.bys])
 | 4 =>
  simp[zO] at h;rcases h with⟨rfl,rfl⟩|⟨rfl,rfl⟩
  ·exact⟨_,_,_,_,rfl,rfl,by decide,by decide,rfl,rfl,rfl,by decide,rfl,fun x hx=>by cases hx⟩
  ·refine⟨⟨sC,1,2,2,.all sa (Ck.funT tLa [.var sa,tLa])⟩,[.var sa,tLa],sL,[sa],rfl,rfl,by decide,by decide,rfl,rfl,rfl,by decide,by simp[Ck.sub,Ck.look,Ck.bys,Ck.spAr,wTy],fun x hx=>?_⟩;rcases List.mem_cons.1 hx with rfl|hx
   ·exact zVX (fun s hs=>by simpa[Ck.fv] using hs) (fun p hp=>by simp[Ck.bys,Ck.spAr,wTy] at hp;subst hp;exact⟨by simp[Ck.fv],rfl⟩) rfl (Nat.le_trans (by rw[List.length_zip];exact Nat.min_le_left _ _) (show [sa].length<=3 by decide))
   ·rw[List.mem_singleton.1 hx];exact zVX (fun s hs=>by simpa[Ck.fv,Ck.insAll,Ck.no,Ck.ins] using hs) (fun p hp=>by simp[Ck.bys,Ck.spAr,wTy] at hp;subst hp;exact⟨by simp[Ck.fv],rfl⟩) rfl (Nat.le_trans (by rw[List.length_zip];exact Nat.min_le_left _ _) (show [sa].length<=3 by decide))
 | n+5=>simp[zO] at h
theorem zO3 (l:List ByteArray) (hl:l.length<100000):zTP Tryz.prog 87 [] [.ptr [.sl (eSs l)]] l.length (fun k=>[.lit (.int .i64 ((l.length-1-k:Nat):Int)),.lit (.string (l.getD (l.length-1-k) .empty))]):=by
 refine zZO ttok Tryz.func87 rfl (by rfl) (Nat.le_of_ble_eq_true rfl) (by kernel_rfl) (by kernel_rfl) (fun hp l0 B hY=>?_);refine WsemB.seq ttok mixed ?_;refine WsemB.block ?_;refine WsemB.loop (α:={k:Nat // k<=l.length}) (fun k=>{vs:=[(0,.v (.lit (yv l0))),(1,.v (.ptr [.sl (eSs l)])),(3,sv ((l.length:Int)-1-(k.1:Nat)))],hp:=hp k.1}) (fun k=>l.length-k.1) ⟨0,Nat.zero_le _⟩ ⟨⟨rfl,rfl,svc ?_,trivial⟩,trivial,rfl⟩ ?_
 ·simp only[eSs,List.length_map];rw[Int.sub_sub,show (1:Int)+((0:Nat):Int)=1 from rfl];simp[IntKind.wrap,IntKind.signed,IntKind.bits];omega
 rintro⟨k,hk⟩;simp only;refine WsemB.seq ttok mixed ?_;refine⟨fun h=>?_,fun h=>?_⟩
 rotate_left
 ·have h:k=l.length:=by have h:¬(0:Int)<=(l.length:Int)-1-(k:Nat):=of_decide_eq_false h;omega
  subst h;exact rfl
 have h:k<l.length:=by have h:(0:Int)<=(l.length:Int)-1-(k:Nat):=of_decide_eq_true h;omega
 refine WsemB.seqS ?_;refine WsemB.block ?_;refine WsemB.seqS (WsemB.regionY ttok 6 ?_);have hix:((l.length:Int)-1-(k:Nat)).toNat=l.length-1-k:=by omega
 have hgd:(eSs l)[((l.length:Int)-1-(k:Nat)).toNat]? = some (.lit (.string (l.getD (l.length-1-k) .empty))):=by
  rw[hix,zKW (by omega)];simp[List.getD_eq_getElem?_getD,show l.length-1-k<l.length by omega]
 refine⟨_,by show (0:Int)<=(l.length:Int)-1-(k:Nat);omega,hgd,rfl,?_⟩;have hxs:(l.length:Int)-1-(k:Nat)=((l.length-1-k:Nat):Int):=by omega
 refine⟨l0,zPW (hp (k+1)),rfl,fun cx hcx=>?_,?_⟩
 ·have:=hY k h cx hcx;rw[<-hxs] at this;exact this
 rintro r w h2 ⟨rfl,rfl⟩;refine WsemB.of ttok mixed ?_;refine WsemB.of ttok mixed ?_;refine⟨⟨k+1,h⟩,(show l.length-(k+1)<l.length-k by omega),⟨rfl,rfl,svc ?_,trivial⟩,trivial,rfl⟩;simp[IntKind.wrap,IntKind.signed,IntKind.bits];omega
theorem zUQ (l:List ByteArray):zB Tryz.prog 49 [.sl (eSs l)] (.fn (.func 87) [] [.ptr [.sl (eSs l)]]):=by
 refine zA ttok mixed Tryz.func49 rfl (by rfl) (Nat.le_of_ble_eq_true rfl) (by kernel_rfl) ?_;refine .inl ?_;exact rfl
end Go.Proofs.YtebmimnglcdogaaGreatDoor
