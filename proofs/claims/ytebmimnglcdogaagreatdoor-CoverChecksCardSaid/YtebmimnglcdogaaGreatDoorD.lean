/- What is new takes something that no other takes; what is not takes nothing such. Plain. No condition. -/
import Derived.Test.YtebmimnglcdogaaGreatDoorC
import Derived.Test.YtebmimnglcdogaaGreatDoorB
set_option linter.unusedSimpArgs false
set_option linter.unusedVariables false
namespace Go.Proofs.YtebmimnglcdogaaGreatDoor
open Go Fp
set_option maxRecDepth 10000
set_option maxHeartbeats 4000000
section
variable {n t:Nat} {cs fs:List Nat} {l:List Rw} {r:Rw} {K:Kn}
end
theorem zAI:∀(l:List Pt) (n k:Nat),(zI n l)[k]? = (l[k]?).map fun p=>⟨[p],[],n+k⟩
 | [],_,_=>by simp[zI]
 | p::l,n,0=>by simp[zI]
 | p::l,n,k+1=>by simp only[zI,List.getElem?_cons_succ,zAI l (n+1) k];rw[show n+1+k=n+(k+1) by omega]
set_option maxHeartbeats 16000000
theorem z2L:∀(l:List Rw),(∀r∈l,yT r.ps<=15)->wt l<=l.length*15
 | [],_=>by simp[wt]
 | r::l,h=>by
  have h1:=h r (by simp);have:=z2L l (fun r hr=>h r (by simp[hr]));simp only[wt,List.length_cons,Nat.add_mul,Nat.one_mul];omega
theorem zWC {t:Nat} {l:List Rw} (ht:t<5) (hl:l.length<=6) (h:∀r∈l,RowTy [t] 300 r/\yT r.ps<=15):RowsTy [t] 300 l:=by
 have:=z2L l (fun r hr=>(h r hr).2);exact⟨fun r hr=>(h r hr).1,fun u hu=>by simp at hu;omega,by omega,by simp;omega,by omega⟩
def PatsOk (t:Nat) (l:List Pt):Prop:=t<5/\l.length<=6/\∀p∈l,TyP t p/\p.sz<=15
theorem PatsOk.rows {t:Nat} {l:List Pt} (h:PatsOk t l):∀r∈zI 0 l,RowTy [t] 300 r/\yT r.ps<=15:=fun r hr=>by
 obtain⟨k,hk⟩:=List.getElem?_of_mem hr;rw[zAI] at hk;obtain⟨p,hp,rfl⟩:=Option.map_eq_some_iff.1 hk;have:=h.2.2 p (List.mem_of_getElem? hp);have h2:=zOT p;exact⟨⟨⟨this.1,trivial⟩,by simp⟩,by simp only[yT];omega⟩
theorem PatsOk.all {t:Nat} {l:List Pt} (h:PatsOk t l):RowsTy [t] 300 (zI 0 l):=zWC h.1 (by rw[qX];exact h.2.1) h.rows
def z5S:Pt := .mk 0 0 .empty .no [] []
def z5V:Option (List Pt)->AV
 | some (m::_) => .tup [ePt m,.sb true]
 | _ => .tup [ePt z5S,.sb false]
def zKE (l:List Pt):Option (List Pt):=miss 300 (zI 0 l) 1
def zC8 (esz:Nat) (r:AV) (o:Nat) (h:List (Nat×HO)):Prop :=
 (r = .sl []/\o=esz+1/\h=[])∨(o=0/\∃b cap zs,r = .lit (.slice (some ⟨b,0,none⟩) 0 cap)/\h=[(b,HO.cells zs)]/\cap*esz<=zs.length)
theorem jC {α:Type} {ls:List (List α)} {k:Nat} (h:k<ls.length):(ls.take (k+1)).flatten=(ls.take k).flatten++ls[k]:=by
 rw[List.take_succ_eq_append_getElem h,List.flatten_append];simp
theorem zCE {α:Type}:∀(ls:List (List α)) (k:Nat),(ls.take k).flatten.length<=ls.flatten.length
 | [],k=>by simp
 | l::ls,0=>by simp
 | l::ls,k+1=>by have:=zCE ls k;simp only[List.take_succ_cons,List.flatten_cons,List.length_append];omega
theorem zJL {n:Nat} {ls:List (List AV)} (hu:∀l∈ls,Uni n l) (k:Nat):Uni n (ls.take k).flatten:=fun a ha=>by
 obtain⟨l,hl,h⟩:=List.mem_flatten.1 ha;exact hu l (List.mem_of_mem_take hl) a h
theorem zU2 (n:Nat) (hn:n<=100000):CallsG Tryz.prog (fnv 60) [] [.nil,.lit (.int .i64 (n:Nat))] [] fun r o h=>r = .sl []/\o=6/\h=[]:=by
 have w0:IntKind.i64.wrap ((n:Int)-IntKind.i64.wrap (0-(([]:List AV).length:Nat)))=(n:Int):=by
  rw[show IntKind.i64.wrap (0-(([]:List AV).length:Nat))=0 from rfl,Int.sub_zero];exact yB (by omega)
 refine CallsG.opened (esz:=5) (qU (os:=[6]) ttok mixed Tryz.func60 rfl (by rfl) (fun i sz h=>?_) (Nat.le_of_ble_eq_true rfl) (by kernel_rfl) (post:=zC8 5) ?_) (fun r o h hp=>hp)
 ·match i with
  | 0=>rfl
  | i+1=>simp at h
 refine⟨fun h=>?_,fun _=>?_⟩
 ·have h:=of_decide_eq_true h;omega
 refine⟨fun h=>?_,fun h=>?_⟩
 ·have h:=of_decide_eq_true h;rw[w0] at h;refine .inl ⟨rfl,rfl,?_⟩;refine⟨n,w0,by omega,by omega,fun b cap zs h1 h2=>?_⟩;refine⟨by decide,by decide,by exact_mod_cast Nat.zero_le _,?_⟩;refine .inr ⟨rfl,b,cap,zs,?_,rfl,by omega⟩;have e:∀A B:Option Addr,A=some ⟨b,0,none⟩->B=some ⟨b,0,none⟩->AV.lit (.slice (if cap=0 then A else B) 0 cap) = .lit (.slice (some ⟨b,0,none⟩) 0 cap):=fun A B hA hB=>by rw[hA,hB];split<;>rfl
  exact e _ _ rfl rfl
 ·exact .inl ⟨rfl,rfl,rfl⟩
theorem zO2 (ls:List (List AV)) (hn:ls.length<10000) (hu:∀l∈ls,Uni 5 l) (ht:ls.flatten.length<=100000):zB Tryz.prog 22 [.sl (ls.map AV.sl)] (.sl ls.flatten):=by
 refine zA ttok mixed Tryz.func22 rfl (by rfl) (Nat.le_of_ble_eq_true rfl) (by kernel_rfl) ?_;have hml:(ls.map AV.sl).length=ls.length:=by simp
 refine⟨{k:Nat // k<=ls.length},fun k=>{vs:=[(0,.v (.sl (ls.map AV.sl))),(3,sv ((ls.take k.1).flatten.length:Nat)),(9,.v (.sl (ls.map AV.sl))),(10,sv (ls.length:Nat)),(11,sv (k.1:Nat))]},
  fun k=>ls.length-k.1,⟨0,Nat.zero_le _⟩,⟨⟨rfl,rfl,rfl,svc (by rw[hml]),rfl,trivial⟩,trivial,rfl⟩,?_⟩
 rintro⟨k,hk⟩;refine⟨fun h=>?_,fun h=>?_⟩
 ·have h:k<ls.length:=by have h:=of_decide_eq_true h;simp only at h;omega
  have hfl:=jC h;have hle:=zCE ls (k+1);refine⟨.sl ls[k],by omega,zD9 (f:=AV.sl) h,rfl,?_⟩;have w1:IntKind.i64.wrap (((ls.take k).flatten.length:Nat)+(ls[k].length:Nat))=((ls.take (k+1)).flatten.length:Nat):=by
   rw[hfl,List.length_append,<-Int.natCast_add];exact yB (by rw[hfl,List.length_append] at hle;omega)
  refine⟨fun h2=>?_,fun _=>?_⟩
  ·have h2:=of_decide_eq_true h2;simp only[w1] at h2;omega
  exact⟨⟨k+1,h⟩,by simp;omega,⟨rfl,svc w1,rfl,rfl,svc (wrap_succ (k:=k) (by omega)),trivial⟩,trivial,rfl⟩
 ·have h:k=ls.length:=by have h:=of_decide_eq_false h;simp only at h;omega
  subst h;have hg:=zU2 ls.flatten.length ht;rw[show ls.flatten.length=(ls.take ls.length).flatten.length by rw[List.take_length]] at hg;refine .inr (.inr (.inr (.inr (.inr (.inl ⟨[],[],[],_,rfl,List.nodup_nil,rfl,hg,?_⟩)))));rintro r w hout ⟨rfl,rfl,rfl⟩;refine⟨{k:Nat // k<=ls.length},fun k=>{vs:=[(6,.v (.sl (ls.take k.1).flatten)),(25,.v (.sl (ls.map AV.sl))),(26,sv (ls.length:Nat)),(27,sv (k.1:Nat))],ow:=[(6,0,6)]},
   fun k=>ls.length-k.1,⟨0,Nat.zero_le _⟩,⟨⟨rfl,rfl,svc (by rw[hml]),rfl,trivial⟩,⟨rfl,trivial⟩,rfl⟩,?_⟩
  rintro⟨k,hk⟩;refine⟨fun h=>?_,fun h=>?_⟩
  ·have h:k<ls.length:=by have h:=of_decide_eq_true h;simp only at h;omega
   have hfl:=jC h;have hle:=zCE ls (k+1);refine⟨.sl ls[k],by omega,zD9 (f:=AV.sl) h,rfl,?_⟩;refine⟨by rw[hfl,List.length_append] at hle;simp only;omega,zJL hu k,hu _ (List.getElem_mem h),?_⟩;refine⟨⟨k+1,h⟩,by simp;omega,⟨?_,rfl,rfl,svc (wrap_succ (k:=k) (by omega)),trivial⟩,⟨rfl,trivial⟩,rfl⟩;show _=SV.v (AV.sl (ls.take (k+1)).flatten);rw[hfl];rfl
  ·have h:k=ls.length:=by have h:=of_decide_eq_false h;simp only at h;omega
   subst h;show AV.sl (ls.take ls.length).flatten=_;rw[List.take_length]
theorem zVU (n:Nat) (hn:n<=100000):CallsG Tryz.prog (fnv 97) [] [.nil,.lit (.int .i64 (n:Nat))] [] fun r o h=>r = .sl []/\o=11/\h=[]:=by
 have w0:IntKind.i64.wrap ((n:Int)-IntKind.i64.wrap (0-(([]:List AV).length:Nat)))=(n:Int):=by
  rw[show IntKind.i64.wrap (0-(([]:List AV).length:Nat))=0 from rfl,Int.sub_zero];exact yB (by omega)
 refine CallsG.opened (esz:=10) (qU (os:=[11]) ttok mixed Tryz.func97 rfl (by rfl) (fun i sz h=>?_) (Nat.le_of_ble_eq_true rfl) (by kernel_rfl) (post:=zC8 10) ?_) (fun r o h hp=>hp)
 ·match i with
  | 0=>rfl
  | i+1=>simp at h
 refine⟨fun h=>?_,fun _=>?_⟩
 ·have h:=of_decide_eq_true h;omega
 refine⟨fun h=>?_,fun h=>?_⟩
 ·have h:=of_decide_eq_true h;rw[w0] at h;refine .inl ⟨rfl,rfl,?_⟩;refine⟨n,w0,by omega,by omega,fun b cap zs h1 h2=>?_⟩;refine⟨by decide,by decide,by exact_mod_cast Nat.zero_le _,?_⟩;refine .inr ⟨rfl,b,cap,zs,?_,rfl,by omega⟩;have e:∀A B:Option Addr,A=some ⟨b,0,none⟩->B=some ⟨b,0,none⟩->AV.lit (.slice (if cap=0 then A else B) 0 cap) = .lit (.slice (some ⟨b,0,none⟩) 0 cap):=fun A B hA hB=>by rw[hA,hB];split<;>rfl
  exact e _ _ rfl rfl
 ·exact .inl ⟨rfl,rfl,rfl⟩
theorem zQD (ls:List (List AV)) (hn:ls.length<10000) (hu:∀l∈ls,Uni 10 l) (ht:ls.flatten.length<=100000):zB Tryz.prog 76 [.sl (ls.map AV.sl)] (.sl ls.flatten):=by
 refine zA ttok mixed Tryz.func76 rfl (by rfl) (Nat.le_of_ble_eq_true rfl) (by kernel_rfl) ?_;have hml:(ls.map AV.sl).length=ls.length:=by simp
 refine⟨{k:Nat // k<=ls.length},fun k=>{vs:=[(0,.v (.sl (ls.map AV.sl))),(3,sv ((ls.take k.1).flatten.length:Nat)),(9,.v (.sl (ls.map AV.sl))),(10,sv (ls.length:Nat)),(11,sv (k.1:Nat))]},
  fun k=>ls.length-k.1,⟨0,Nat.zero_le _⟩,⟨⟨rfl,rfl,rfl,svc (by rw[hml]),rfl,trivial⟩,trivial,rfl⟩,?_⟩
 rintro⟨k,hk⟩;refine⟨fun h=>?_,fun h=>?_⟩
 ·have h:k<ls.length:=by have h:=of_decide_eq_true h;simp only at h;omega
  have hfl:=jC h;have hle:=zCE ls (k+1);refine⟨.sl ls[k],by omega,zD9 (f:=AV.sl) h,rfl,?_⟩;have w1:IntKind.i64.wrap (((ls.take k).flatten.length:Nat)+(ls[k].length:Nat))=((ls.take (k+1)).flatten.length:Nat):=by
   rw[hfl,List.length_append,<-Int.natCast_add];exact yB (by rw[hfl,List.length_append] at hle;omega)
  refine⟨fun h2=>?_,fun _=>?_⟩
  ·have h2:=of_decide_eq_true h2;simp only[w1] at h2;omega
  exact⟨⟨k+1,h⟩,by simp;omega,⟨rfl,svc w1,rfl,rfl,svc (wrap_succ (k:=k) (by omega)),trivial⟩,trivial,rfl⟩
 ·have h:k=ls.length:=by have h:=of_decide_eq_false h;simp only at h;omega
  subst h;have hg:=zVU ls.flatten.length ht;rw[show ls.flatten.length=(ls.take ls.length).flatten.length by rw[List.take_length]] at hg;refine .inr (.inr (.inr (.inr (.inr (.inl ⟨[],[],[],_,rfl,List.nodup_nil,rfl,hg,?_⟩)))));rintro r w hout ⟨rfl,rfl,rfl⟩;refine⟨{k:Nat // k<=ls.length},fun k=>{vs:=[(6,.v (.sl (ls.take k.1).flatten)),(25,.v (.sl (ls.map AV.sl))),(26,sv (ls.length:Nat)),(27,sv (k.1:Nat))],ow:=[(6,0,11)]},
   fun k=>ls.length-k.1,⟨0,Nat.zero_le _⟩,⟨⟨rfl,rfl,svc (by rw[hml]),rfl,trivial⟩,⟨rfl,trivial⟩,rfl⟩,?_⟩
  rintro⟨k,hk⟩;refine⟨fun h=>?_,fun h=>?_⟩
  ·have h:k<ls.length:=by have h:=of_decide_eq_true h;simp only at h;omega
   have hfl:=jC h;have hle:=zCE ls (k+1);refine⟨.sl ls[k],by omega,zD9 (f:=AV.sl) h,rfl,?_⟩;refine⟨by rw[hfl,List.length_append] at hle;simp only;omega,zJL hu k,hu _ (List.getElem_mem h),?_⟩;refine⟨⟨k+1,h⟩,by simp;omega,⟨?_,rfl,rfl,svc (wrap_succ (k:=k) (by omega)),trivial⟩,⟨rfl,trivial⟩,rfl⟩;show _=SV.v (AV.sl (ls.take (k+1)).flatten);rw[hfl];rfl
  ·have h:k=ls.length:=by have h:=of_decide_eq_false h;simp only at h;omega
   subst h;show AV.sl (ls.take ls.length).flatten=_;rw[List.take_length]
theorem zXE (n:Nat) (hn:n<=2):zB Tryz.prog zFC [.lit (.int .u64 1),.lit (.int .u64 (n:Nat))] (.tup [.lit (.int .u64 0),.lit (.int .u64 (n:Nat))]):=by
 match n,hn with
 | 0,_|1,_|2,_ =>
  refine zA ttok mixed Tryz.func142 rfl (by rfl) (Nat.le_of_ble_eq_true rfl) (by kernel_rfl) ?_;refine⟨_,fun w=>rfl,rfl,?_⟩;refine⟨_,fun w=>rfl,rfl,?_⟩;refine⟨_,fun w=>rfl,rfl,?_⟩;refine⟨_,fun w=>rfl,rfl,?_⟩;refine⟨_,fun w=>rfl,rfl,?_⟩;refine⟨_,fun w=>rfl,rfl,?_⟩;refine⟨_,fun w=>rfl,rfl,?_⟩;refine⟨_,fun w=>rfl,rfl,?_⟩;exact rfl
theorem z4W (n:Nat) (hn:n<=2):zB Tryz.prog zH2 [.lit (.int .u64 1),.lit (.int .u64 (n:Nat))] (.tup [.lit (.int .u64 0),.lit (.int .u64 (n:Nat))]):=by
 refine zA ttok mixed Tryz.func122 rfl (by rfl) (Nat.le_of_ble_eq_true rfl) (by kernel_rfl) ?_;exact .inl ⟨_,zXE n hn,rfl⟩
def zTW (n:Nat) (x:AV) (r:AV) (o:Nat) (h:List (Nat×HO)):Prop :=
 o=0/\∃b,r = .lit (.slice (some ⟨b,0,none⟩) n n)/\h=[(b,HO.cells ((List.replicate n x).flatMap AV.cells))]
theorem zKG {x:AV} {n:Nat}:Uni x.cells.length (List.replicate n x):=fun a ha=>by rw[(List.mem_replicate.1 ha).2]
theorem zQO {n:Nat} {x:AV} (hx:∀c∈x.cells,c.isCell=true) (h0:0<x.cells.length) {r:AV} {o:Nat} {h:List (Nat×HO)} (hp:zTW n x r o h):Frz h r (.sl (List.replicate n x))/\o=0:=by
 obtain⟨rfl,b,rfl,rfl⟩:=hp;refine⟨.sl b 0 n n x.cells.length _ _ (List.mem_singleton.2 rfl) (by simp) (Nat.le_refl _) zKG (fun y hy c hc=>?_) (by rw[yO zKG];simp) (fun i y j c c' hy hj hc=>?_),rfl⟩
 ·rw[(List.mem_replicate.1 hy).2] at hc;exact hx c hc
 ·have hyx:=(List.mem_replicate.1 (List.mem_of_getElem? hy)).2;subst hyx;rw[Nat.zero_add] at hc;obtain⟨z,z1,z2⟩:=zCM h0 zKG hc;have hj':j<y.cells.length:=(List.getElem?_eq_some_iff.1 hj).1;have e2:(i*y.cells.length+j) % y.cells.length=j:=by rw[Nat.mul_comm,Nat.mul_add_mod,Nat.mod_eq_of_lt hj']
  have hz:=(List.mem_replicate.1 (List.mem_of_getElem? z1)).2;subst hz;rw[e2,hj] at z2;injection z2 with z2
  rw[z2];exact .refl _
theorem zV9 {l cs:List AV} (h:l.length=cs.length):setAt l 0 cs=cs:=by
 unfold setAt;rw[Nat.zero_add,List.drop_of_length_le (by omega)];simp
theorem zQK {l m cs:List AV} (h:l.length=cs.length):setAt (l++m) 0 cs=cs++m:=by
 unfold setAt;rw[Nat.zero_add,<-h,List.drop_left];simp
theorem zRG {l m cs:List AV} (h:m.length=cs.length):setAt (l++m) l.length cs=l++cs:=by
 unfold setAt;rw[List.take_left,List.drop_of_length_le (by rw[List.length_append];omega)];simp
abbrev z10:List AV:=[.lit (.int .i64 0),.lit (.int .i64 0),.lit (.int .i64 0),.lit (.string .empty),.sl [],.lit (.int .i64 0),.lit (.int .i64 0),.lit (.string .empty),.sl [],.sl []]
theorem zVZ (x:AV) (n:Nat) (hn:n<=2) (hx:x.cells.length=10) (hc:∀c∈x.cells,c.isCell=true):zB Tryz.prog jZ [.sl [x],.lit (.int .i64 (n:Nat))] (.sl (List.replicate n x)):=by
 have hm:=z4W n hn;have ux:Uni 10 [x]:=zCV hx;refine CallsG.pure (yS (first:=[]) (cap:=[]) ttok mixed Tryz.func96 rfl (by rfl) rfl (Nat.le_of_ble_eq_true rfl) (by kernel_rfl) (post:=zTW n x) ?_) (fun r o h hp=>zQO hc (by omega) hp)
 match n,hn with
 | 0,_ =>
  refine⟨fun h=>absurd h (by decide),fun _=>?_⟩;refine .inl ⟨_,hm,?_⟩;refine⟨fun _=>?_,fun h=>absurd h (by decide)⟩;refine⟨fun h=>absurd h (by decide),fun _=>?_⟩;refine⟨rfl,by decide,by decide,by decide,fun b=>?_⟩;refine .inl ⟨rfl,?_⟩;refine⟨Unit,fun _=>{vs:=[(7,.v (.lit (.slice (some ⟨b,0,none⟩) 0 0))),(8,sv 0)],hp:=[(b,HO.cells [])]},fun _=>0,(),⟨⟨rfl,rfl,trivial⟩,trivial,rfl⟩,?_⟩;rintro⟨⟩;refine⟨fun h=>absurd h (by decide),fun _=>?_⟩;exact⟨rfl,b,rfl,rfl⟩
 | 1,_ =>
  refine⟨fun h=>absurd h (by decide),fun _=>?_⟩;refine .inl ⟨_,hm,?_⟩;refine⟨fun _=>?_,fun h=>absurd h (by decide)⟩;refine⟨fun h=>absurd h (by decide),fun _=>?_⟩;refine⟨rfl,by decide,by decide,by decide,fun b=>?_⟩;refine .inr ⟨0,_,rfl,Nat.le_of_ble_eq_true rfl,ux,Nat.le_of_ble_eq_true rfl,?_⟩;refine⟨Unit,fun _=>{vs:=[(7,.v (.lit (.slice (some ⟨b,0,none⟩) 1 1))),(8,sv 1)],hp:=[(b,HO.cells x.cells)]},fun _=>0,(),⟨⟨rfl,rfl,trivial⟩,trivial,?_⟩,?_⟩
  ·show [(b,HO.cells (setAt _ 0 (x.cells++[])))]=[(b,HO.cells x.cells)];rw[List.append_nil,zV9];rw[hx];rfl
  rintro⟨⟩;refine⟨fun h=>absurd h (by decide),fun _=>?_⟩;refine⟨rfl,b,rfl,?_⟩;show [(b,HO.cells x.cells)]=_;simp
 | 2,_ =>
  refine⟨fun h=>absurd h (by decide),fun _=>?_⟩;refine .inl ⟨_,hm,?_⟩;refine⟨fun _=>?_,fun h=>absurd h (by decide)⟩;refine⟨fun h=>absurd h (by decide),fun _=>?_⟩;refine⟨rfl,by decide,by decide,by decide,fun b=>?_⟩;refine .inr ⟨0,_,rfl,Nat.le_of_ble_eq_true rfl,ux,Nat.le_of_ble_eq_true rfl,?_⟩;refine⟨{k:Nat // k<=1},fun k=>{vs:=[(7,.v (.lit (.slice (some ⟨b,0,none⟩) 2 2))),(8,sv ((k.1+1:Nat):Int))],hp:=[(b,HO.cells (if k.1=0 then x.cells++z10 else x.cells++x.cells))]},fun k=>1-k.1,⟨0,by decide⟩,⟨⟨rfl,rfl,trivial⟩,trivial,?_⟩,?_⟩
  ·show [(b,HO.cells (setAt (z10++(z10++[])) 0 (x.cells++[])))]=[(b,HO.cells (x.cells++z10))];rw[List.append_nil,List.append_nil,zQK];rw[hx];rfl
  rintro⟨k,hk⟩
  match k,hk with
  | 0,_ =>
   refine⟨fun _=>?_,fun h=>absurd h (by simp)⟩;refine⟨by simp,by simp,by simp,?_⟩;refine⟨by simp,by simp,by simp,?_⟩;refine⟨0,0,_,_,rfl,rfl,?_,?_,?_⟩
   ·show 10+1*10<=(x.cells++z10).length;rw[List.length_append,hx];decide
   ·show 0+1*10<=(x.cells++z10).length;rw[List.length_append,hx];decide
   refine⟨by decide,⟨1,by decide⟩,by simp,⟨rfl,rfl,trivial⟩,trivial,?_⟩;show [(b,HO.cells (setAt (x.cells++z10) 10 (((x.cells++z10).drop 0).take (1*10))))]=[(b,HO.cells (x.cells++x.cells))];rw[List.drop_zero,show 1*10=x.cells.length by rw[hx],List.take_left,<-hx,zRG];rw[hx];rfl
  | 1,_ =>
   refine⟨fun h=>absurd h (by simp),fun _=>?_⟩;refine⟨rfl,b,rfl,?_⟩;show [(b,HO.cells (x.cells++x.cells))]=_;simp[List.replicate]
abbrev sb:ByteArray:=⟨#[98]⟩
abbrev z6O:ByteArray:=⟨#[45,62]⟩
def wTab5:List DT:=[(z6O,0,[sa,sb],[.agg [.sl []],.agg [.sl []]],[]),(zKZ,0,[],[],[]),(zAW,0,[],[],zS3),(sL,1,[sa],[.agg [.sl []]],wsL),(sT,2,[],[],wsT)]
theorem z05:zB Tryz.prog zMX [] (.agg [.sl []]):=by
 refine zD ttok mixed Tryz.func61 rfl (by rfl) (Nat.le_of_ble_eq_true rfl) (by kernel_rfl) ?_;exact rfl
theorem zTB:zB Tryz.prog zG7 [] (.sl ((wTab5.take 3).map eD)):=by
 refine zD ttok mixed Tryz.func23 rfl (by rfl) (Nat.le_of_ble_eq_true rfl) (by kernel_rfl) ?_;exact .inl ⟨_,z05,rfl⟩
def atT:List (ByteArray×Nat×Nat):=[(zJ5,2,0),(zO5,2,1),(sN,3,0),(sC,3,1),(sA,4,0),(sB,4,1),(sD,4,2)]
def eAt (q:ByteArray×Nat×Nat):AV×AV:=(.lit (.string q.1),.agg [.lit (.int .i64 (q.2.1:Nat)),.lit (.int .i64 (q.2.2:Nat))])
def cnt:Nat->Nat|0=>0|1=>0|2=>0|3=>2|4=>4|_=>7
abbrev zH0 (d:Nat) (h:d<5):Nat:=(wTab5[d]'h).2.2.2.2.length
theorem at_at:∀(d:Nat) (h:d<5) (k:Nat) (hk:k<zH0 d h),atT[cnt d+k]? = some ((wTab5[d]'h).2.2.2.2[k].1,d,k)
 | 0,_,k,hk|1,_,k,hk=>by simp[zH0,wTab5] at hk
 | 2,_,0,_|2,_,1,_|3,_,0,_|3,_,1,_|4,_,0,_|4,_,1,_|4,_,2,_=>rfl
 | 2,_,k+2,hk|3,_,k+2,hk=>by simp[zH0,wTab5] at hk;omega
 | 4,_,k+3,hk=>by simp[zH0,wTab5] at hk;omega
 | d+5,h,_,_=>by omega
theorem zXV:∀(d:Nat) (h:d<5),cnt d+zH0 d h=cnt (d+1)
 | 0,_|1,_|2,_|3,_|4,_=>rfl
 | d+5,h=>by omega
theorem z1Q:∀(d:Nat) (h:d<5),zH0 d h<=3
 | 0,_|1,_|2,_|3,_|4,_=>Nat.le_of_ble_eq_true rfl
 | d+5,h=>by omega
theorem zLK:(atT.map (·.1)).Nodup:=by decide
theorem take_snoc {α:Type}:∀{l:List α} {i:Nat} {x:α},l[i]? = some x->l.take (i+1)=l.take i++[x]:=fun {l i x} h=>by
 have hl:=(List.getElem?_eq_some_iff.1 h).1;rw[List.take_succ_eq_append_getElem hl];rw[List.getElem?_eq_getElem hl] at h;injection h with h;rw[h]
theorem zDG {α β:Type} {f:α->β}:∀{l:List α} {i:Nat} {x:α},(l.map f).Nodup->l[i]? = some x->∀y∈l.take i,f y≠f x
 | a::l,0,x,_,_,y,hy=>by simp at hy
 | a::l,i+1,x,hn,hx,y,hy=>by
  simp only[List.map_cons,List.nodup_cons] at hn;rw[List.take_succ_cons] at hy;have hx':l[i]? = some x:=by simpa using hx
  rcases List.mem_cons.1 hy with rfl|hy
  ·intro e;exact hn.1 (by rw[e];exact List.mem_map_of_mem (List.mem_of_getElem? hx'))
  ·exact zDG hn.2 hx' y hy
 | [],i,x,_,hx,_,_=>by simp at hx
def cAV:AV := .ptr [.sl (wTab5.map eD),.mpv (atT.map eAt)]
theorem z5U (l:List DT):Uni 5 (l.map eD):=wW (f:=eD) (n:=5) (fun _=>rfl) l
def z0X (r:AV) (o:Nat) (h:List (Nat×HO)):Prop:=o=0/\∃b,r = .ptr [.sl (wTab5.map eD),.lit (.map (some b))]/\h=[(b,HO.mp (atT.map eAt))]
theorem zZ4:zB Tryz.prog zQX [zYB] cAV:=by
 refine CallsG.pure (yS (first:=[]) (cap:=[]) ttok mixed Tryz.func6 rfl (by rfl) rfl (Nat.le_of_ble_eq_true rfl) (by kernel_rfl) (post:=z0X) ?_) (fun r o h hp=>?_)
 ·have hcc:=zO2 [(wTab5.take 3).map eD,[dL,dT]] (by decide) (fun l hl=>by
   simp at hl;rcases hl with rfl|rfl
   ·rw[<-List.map_take];exact z5U _
   ·exact z5U [(sL,1,[sa],[.agg [.sl []]],wsL),(sT,2,[],[],wsT)]) (by decide)
  have hcc:zB Tryz.prog 22 [.sl [.sl ((wTab5.take 3).map eD),.sl [dL,dT]]] (.sl (wTab5.map eD)):=hcc;refine .inl ⟨_,zTB,?_⟩;refine .inl ⟨_,hcc,?_⟩;intro b;refine⟨by decide,?_⟩;have hD:(wTab5.map eD).length=5:=rfl;refine⟨{d:Nat // d<=5},fun d=>{vs:=[(3,.v (.ptr [.sl (wTab5.map eD),.lit (.map (some b))])),(19,sv 5),(20,sv (d.1:Nat))],hp:=[(b,HO.mp ((atT.take (cnt d.1)).map eAt))]},fun d=>5-d.1,⟨0,by decide⟩,⟨⟨rfl,rfl,rfl,trivial⟩,trivial,rfl⟩,?_⟩;rintro⟨d,hd⟩;refine⟨fun h=>?_,fun h=>?_⟩
  ·have h:d<5:=by have h:=of_decide_eq_true h;simp only at h;omega
   have hg:(wTab5.map eD)[d]? = some (eD wTab5[d]):=zD9 h;have hcn:=z1Q d h;refine⟨_,by omega,hg,rfl,?_⟩;refine⟨{k:Nat // k<=zH0 d h},fun k=>{vs:=[(3,.v (.ptr [.sl (wTab5.map eD),.lit (.map (some b))])),(4,sv (d:Nat)),(19,sv 5),(20,sv (d:Nat)),(30,.v (.sl (wB wTab5[d].2.2.2.2))),(31,sv (zH0 d h:Nat)),(32,sv (k.1:Nat))],hp:=[(b,HO.mp ((atT.take (cnt d+k.1)).map eAt))]},fun k=>zH0 d h-k.1,⟨0,Nat.zero_le _⟩,
    ⟨⟨rfl,rfl,rfl,rfl,rfl,svc (by rw[zZM]),rfl,trivial⟩,trivial,rfl⟩,?_⟩
   rintro⟨k,hk⟩;refine⟨fun h1=>?_,fun h1=>?_⟩
   ·have h1:k<zH0 d h:=by have h1:=of_decide_eq_true h1;simp only at h1;omega
    have hat:=at_at d h k h1;have hgk:(wB wTab5[d].2.2.2.2)[k]? = some (zO1 wTab5[d].2.2.2.2[k]):=zD9 h1;have hni:=zDG zLK hat;generalize wTab5[d].2.2.2.2[k]=q at *;refine⟨_,by omega,hgk,rfl,?_⟩;refine⟨0,_,none,rfl,fun p hp=>?_,trivial,.no fun p hp=>?_,?_⟩
    ·obtain⟨y,_,rfl⟩:=List.mem_map.1 hp;trivial
    ·obtain⟨y,hy,rfl⟩:=List.mem_map.1 hp;intro e;have e:AV.lit (.string y.1) = .lit (.string q.1):=e;injection e with e;injection e with e
     exact hni y hy e
    refine⟨by decide,⟨k+1,h1⟩,by simp;omega,⟨rfl,rfl,rfl,rfl,rfl,rfl,svc (wrap_succ (k:=k) (by omega)),trivial⟩,trivial,?_⟩;show [(b,HO.mp ((atT.take (cnt d+k)).map eAt++[eAt (q.1,d,k)]))]=[(b,HO.mp ((atT.take (cnt d+(k+1))).map eAt))];rw[<-Nat.add_assoc,take_snoc hat,List.map_append];rfl
   ·have h1:k=zH0 d h:=by have h1:=of_decide_eq_false h1;simp only at h1;omega
    subst h1;refine⟨⟨d+1,h⟩,by simp;omega,⟨rfl,rfl,svc (wrap_succ (k:=d) (by omega)),trivial⟩,trivial,?_⟩;show [(b,HO.mp ((atT.take (cnt d+zH0 d h)).map eAt))]=[(b,HO.mp ((atT.take (cnt (d+1))).map eAt))];rw[zXV]
  ·have h:d=5:=by have h:=of_decide_eq_false h;simp only at h;omega
   subst h;exact⟨rfl,b,rfl,rfl⟩
 ·obtain⟨rfl,b,rfl,rfl⟩:=hp;refine⟨.ptrs _ _ (Nat.le_refl _) (fun c hc=>?_) (fun j c c' hc hc'=>?_),rfl⟩
  ·simp at hc;rcases hc with rfl|rfl<;>rfl
  ·match j with
   | 0=>simp at hc hc';subst hc;subst hc';exact .refl _
   | 1 =>
    simp at hc hc';subst hc;subst hc';exact .mp b _ _ (List.mem_singleton.2 rfl) rfl (fun j c c' h h'=>by rw[h] at h';injection h' with h';subst h';exact .refl _) (fun j c c' h h'=>by rw[h] at h';injection h' with h';subst h';exact .refl _)
   | j+2=>simp at hc
theorem z1F:∀p∈atT.map eAt,qC (.lit (.string .empty)) p.1:=fun p hp=>by
 obtain⟨y,_,rfl⟩:=List.mem_map.1 hp;trivial
theorem zXC {j:Nat} {q:ByteArray×Nat×Nat} (h:atT[j]? = some q):Fp.Found (atT.map eAt) (.string q.1) (some (j,(eAt q).2)):=by
 refine .yes j _ ?_ (fun i hi p hp=>?_)
 ·rw[List.getElem?_map,h];rfl
 ·rw[List.getElem?_map] at hp;cases hy:atT[i]? with
  | none=>rw[hy] at hp;simp at hp
  | some y =>
   rw[hy] at hp;simp at hp;subst hp;have:=zDG zLK h y (by rw[List.mem_iff_getElem?];exact⟨i,by rw[List.getElem?_take,if_pos hi];exact hy⟩);intro e;have e:AV.lit (.string y.1) = .lit (.string q.1):=e;injection e with e;injection e with e
   exact this e
theorem zNS {j:Nat} {q:ByteArray×Nat×Nat} (h:atT[j]? = some q):q.2.1<5:=by
 have:=List.mem_of_getElem? h;revert this;have:∀x∈atT,x.2.1<5:=by decide
 exact this q
theorem z3V {j:Nat} {q:ByteArray×Nat×Nat} (h:atT[j]? = some q) :
  zB Tryz.prog zH8 [cAV,.lit (.string q.1)] (.tup [eD (wTab5[q.2.1]'(zNS h)),.lit (.int .i64 (q.2.2:Nat)),.sb true]):=by
 have hg:(wTab5.map eD)[q.2.1]? = some (eD (wTab5[q.2.1]'(zNS h))):=zD9 (zNS h);refine zA ttok mixed Tryz.func70 rfl (by rfl) (Nat.le_of_ble_eq_true rfl) (by kernel_rfl) ?_;refine⟨some (j,(eAt q).2),z1F,trivial,zXC h,?_⟩;refine⟨_,by omega,hg,rfl,?_⟩;exact⟨by decide,rfl⟩
theorem z3Z {t:Nat} {s:ByteArray} {fs:List Nat} (h:(s,fs)∈zO t):∃(j:Nat) (q:ByteArray×Nat×Nat),atT[j]? = some q/\q.1=s/\∃h5:q.2.1<5,(wTab5[q.2.1]'h5).2.2.2.2=qA t:=by
 match t with
 | 0=>simp[zO] at h
 | 1=>simp[zO] at h;rcases h with⟨rfl,rfl⟩|⟨rfl,rfl⟩<;>first|exact⟨0,_,rfl,rfl,by decide,rfl⟩|exact⟨1,_,rfl,rfl,by decide,rfl⟩
 | 2=>simp[zO] at h;rcases h with⟨rfl,rfl⟩|⟨rfl,rfl⟩<;>first|exact⟨2,_,rfl,rfl,by decide,rfl⟩|exact⟨3,_,rfl,rfl,by decide,rfl⟩
 | 3=>simp[zO] at h;rcases h with⟨rfl,rfl⟩|⟨rfl,rfl⟩|⟨rfl,rfl⟩<;>first|exact⟨4,_,rfl,rfl,by decide,rfl⟩|exact⟨5,_,rfl,rfl,by decide,rfl⟩|exact⟨6,_,rfl,rfl,by decide,rfl⟩
 | 4=>simp[zO] at h;rcases h with⟨rfl,rfl⟩|⟨rfl,rfl⟩<;>first|exact⟨2,_,rfl,rfl,by decide,rfl⟩|exact⟨3,_,rfl,rfl,by decide,rfl⟩
 | n+5=>simp[zO] at h
theorem zTZ {F:Int} {b:Nat->Int} {l:List Rw} {k:Nat} (h:k<l.length):(yL F b l)[k]? = some (eRw F b l[k]):=zD9 h
theorem jQ (F:Int) (b:Nat->Int) (l:List Rw):(yL F b l).length=l.length:=by simp[yL]
def z5I:Option (List (ByteArray×List Tp))->AV
 | some cs => .sl (wB cs)
 | none => .nil
theorem zT6 (F:Int) (b:Nat->Int) (l:List Rw) (cs:List Nat) (a t:Nat) (ha:cs[a]? = some t) (hl:∀r∈l,TyPs cs r.ps) (hcs:cs.length<10000) (hb:l.length<10000) :
  zB Tryz.prog zF8 [cAV,.sl (yL F b l),.lit (.int .i64 (a:Nat))] (z5I (jK a l)):=by
 refine zLD ttok mixed Tryz.func37 rfl (by rfl) (Nat.le_of_ble_eq_true rfl) (by kernel_rfl) ?_;refine⟨{k:Nat // k<=l.length/\∀j y,j<k->l[j]? = some y->zBE a y=none},fun k=>{vs:=[(0,.v cAV),(2,sv (a:Nat)),(12,.v (.sl (yL F b l))),(13,sv (l.length:Nat)),(14,sv (k.1:Nat))]},
  fun k=>l.length-k.1,⟨0,Nat.zero_le _,fun j y h=>by omega⟩,⟨⟨rfl,rfl,rfl,svc (by rw[jQ]),rfl,trivial⟩,trivial,rfl⟩,?_⟩
 rintro⟨k,hk,hinv⟩;refine⟨fun h=>?_,fun h=>?_⟩
 ·have h:k<l.length:=by have h:=of_decide_eq_true h;simp only at h;omega
  obtain⟨p,hp,ht⟩:=(hl _ (List.getElem_mem h)).get ha;have hap:a<l[k].ps.length:=(List.getElem?_eq_some_iff.1 hp).1;have hp':(zM l[k].ps)[a]? = some (ePt p):=by simp[zM,hp]
  have hrow:zBE a l[k]=if p.f=4 then zIU p.s else none:=by unfold zBE;rw[hp]
  refine⟨_,by omega,zTZ h,rfl,?_⟩;refine⟨_,by omega,hp',rfl,?_⟩;by_cases h4:p.f=4
  ·obtain⟨fs,hs,_⟩:=zX0 ht h4;obtain⟨j,q,hq,hqs,h5,hd⟩:=z3Z hs;have hc:=z3V hq;rw[hqs] at hc;refine⟨fun hbs=>?_,fun hbs=>?_⟩<;>first|(exfalso;revert hbs;(simp[h4]);done)|skip
   refine⟨_,by omega,hp',rfl,?_⟩;refine .inl ⟨_,hc,?_⟩;refine⟨?_,rfl⟩;have e:jK a l=some (qA t):=zTT (List.getElem?_eq_getElem h) hinv (by rw[hrow,if_pos h4,zHM hs]);rw[e];show AV.sl (wB (wTab5[q.2.1]'(zNS hq)).2.2.2.2) = .sl (wB (qA t));rw[<-hd]
  ·refine⟨fun hbs=>?_,fun hbs=>?_⟩<;>first|(exfalso;revert hbs;(simp[h4]);done)|skip
   refine⟨⟨k+1,h,fun j y hj hy=>?_⟩,by simp;omega,⟨rfl,rfl,rfl,rfl,svc (wrap_succ (k:=k) (by omega)),trivial⟩,trivial,rfl⟩;rcases Nat.lt_or_ge j k with hlt|hge
   ·exact hinv j y hlt hy
   ·have:j=k:=by omega
    subst this;rw[List.getElem?_eq_getElem h] at hy;injection hy with hy;subst hy
    rw[hrow,if_neg h4]
 ·have h:k=l.length:=by have h:=of_decide_eq_false h;simp only at h;omega
  refine⟨?_,rfl⟩;have:jK a l=none:=zN3 (fun j y hj hy=>hinv j y (by omega) hy);rw[this];exact rfl
theorem zFF (l:List Int) (x:Int) (hl:l.length<10000):∃i:Int,zB Tryz.prog jB [.sl (eIs l),.lit (.int .i64 x)] (.lit (.int .i64 i))/\(0<=i↔x∈l):=by
 have main:∀i:Int,((∃k:Nat,i=k/\l[k]? = some x/\∀j y,j<k->l[j]? = some y->y≠x)∨i = -1/\x∉l)->zB Tryz.prog jB [.sl (eIs l),.lit (.int .i64 x)] (.lit (.int .i64 i)):=fun i hi=>by
  refine zA ttok mixed Tryz.func98 rfl (by rfl) (Nat.le_of_ble_eq_true rfl) (by kernel_rfl) ?_;refine⟨{k:Nat // k<=l.length/\∀j y,j<k->l[j]? = some y->y≠x},fun k=>{vs:=[(0,.v (.sl (eIs l))),(1,sv x),(6,.v (.sl (eIs l))),(7,sv (l.length:Nat)),(8,sv (k.1:Nat))]},
   fun k=>l.length-k.1,⟨0,Nat.zero_le _,fun j y h=>by omega⟩,⟨⟨rfl,rfl,rfl,svc (by rw[zW1]),rfl,trivial⟩,trivial,rfl⟩,?_⟩
  rintro⟨k,hk,hinv⟩;refine⟨fun h=>?_,fun h=>?_⟩
  ·have h:k<l.length:=by have h:=of_decide_eq_true h;simp only at h;omega
   refine⟨_,by omega,zVG h,rfl,?_⟩;refine⟨fun h2=>?_,fun h2=>?_⟩
   ·have h2:=of_decide_eq_true h2;have hi':i=k:=by
     rcases hi with⟨k',rfl,h3,h4⟩|⟨_,h3⟩
     ·rcases Nat.lt_trichotomy k k' with q|q|q
      ·exact absurd h2.symm (h4 k _ q (List.getElem?_eq_getElem h))
      ·rw[q]
      ·exact absurd rfl (hinv k' x q h3)
     ·exact absurd (by rw[h2];exact List.getElem_mem h) h3
    rw[hi'];exact rfl
   ·have h2:=of_decide_eq_false h2;refine⟨⟨k+1,h,fun j y hj hy=>?_⟩,by simp;omega,⟨rfl,rfl,rfl,rfl,svc (wrap_succ (k:=k) (by omega)),trivial⟩,trivial,rfl⟩;rcases Nat.lt_or_ge j k with hlt|hge
    ·exact hinv j y hlt hy
    ·have:j=k:=by omega
     subst this;rw[List.getElem?_eq_getElem h] at hy;injection hy with hy;subst hy
     exact fun e=>h2 e.symm
  ·have h:k=l.length:=by have h:=of_decide_eq_false h;simp only at h;omega
   have hi':i = -1:=by
    rcases hi with⟨k',rfl,h3,h4⟩|⟨h3,_⟩
    ·exact absurd rfl (hinv k' x (by have:=(List.getElem?_eq_some_iff.1 h3).1;omega) h3)
    ·exact h3
   rw[hi'];exact rfl
 by_cases hx:x∈l
 ·have:∃k:Nat,l[k]? = some x/\∀j y,j<k->l[j]? = some y->y≠x:=by
   clear main;induction l with
   | nil=>simp at hx
   | cons z l ih =>
    by_cases hz:z=x
    ·exact⟨0,by simp[hz],fun j y h=>by omega⟩
    ·have hx':x∈l:=by
      rcases List.mem_cons.1 hx with h|h
      ·exact absurd h.symm hz
      ·exact h
     obtain⟨k,h1,h2⟩:=ih (by simp at hl;omega) hx';refine⟨k+1,by simpa using h1,fun j y hj hy=>?_⟩
     match j with
     | 0=>simp at hy;subst hy;exact hz
     | j+1=>exact h2 j y (by omega) (by simpa using hy)
  obtain⟨k,h1,h2⟩:=this;exact⟨k,main k (.inl ⟨k,rfl,h1,h2⟩),⟨fun _=>hx,fun _=>by omega⟩⟩
 ·exact⟨-1,main (-1) (.inr ⟨rfl,hx⟩),⟨fun h=>by omega,fun h=>absurd h hx⟩⟩
theorem xY (l:List Int) (x:Int) (hl:l.length<10000):zB Tryz.prog zBK [.sl (eIs l),.lit (.int .i64 x)] (.sb (decide (x∈l))):=by
 obtain⟨i,h1,h2⟩:=zFF l x hl;refine zA ttok mixed Tryz.func78 rfl (by rfl) (Nat.le_of_ble_eq_true rfl) (by kernel_rfl) ?_;refine .inl ⟨_,h1,?_⟩;show AV.sb (decide (0<=i))=_;by_cases h:x∈l
 ·simp[h,h2.2 h]
 ·simp[h];have:¬0<=i:=fun hh=>h (h2.1 hh);omega
theorem zT9 (F:Int) (b:Nat->Int) (l:List Rw) (a:Nat) (hc:∀r∈l,zHS a r) (hb:l.length<10000) :
  zB Tryz.prog zF6 [.sl (yL F b l),.lit (.int .i64 (a:Nat))] (.sl (eIs (intsOf a l))):=by
 refine zA ttok mixed Tryz.func41 rfl (by rfl) (Nat.le_of_ble_eq_true rfl) (by kernel_rfl) ?_;refine⟨{k:Nat // k<=l.length},fun k=>{vs:=[(1,sv (a:Nat)),(5,.v (.sl (eIs (intsOf a (l.take k.1))))),(9,.v (.sl (yL F b l))),(10,sv (l.length:Nat)),(11,sv (k.1:Nat))],ow:=[(5,0,2)]},
  fun k=>l.length-k.1,⟨0,Nat.zero_le _⟩,⟨⟨rfl,rfl,rfl,svc (by rw[jQ]),rfl,trivial⟩,⟨trivial,trivial⟩,rfl⟩,?_⟩
 rintro⟨k,hk⟩;refine⟨fun h=>?_,fun h=>?_⟩
 ·have h:k<l.length:=by have h:=of_decide_eq_true h;simp only at h;omega
  obtain⟨p,p1,p2,p3,p4,p5⟩:=hc _ (List.getElem_mem h);have ha:a<l[k].ps.length:=(List.getElem?_eq_some_iff.1 p1).1;have hp':(zM l[k].ps)[a]? = some (ePt p):=by simp[zM,p1]
  have hst:intsOf a (l.take (k+1))=jI a (intsOf a (l.take k)) l[k]:=by unfold intsOf;rw[List.take_succ_eq_append_getElem h,List.foldl_append];rfl
  have hle:(intsOf a (l.take k)).length<=k:=by have:=zDS a (l.take k) [];simp at this;exact Nat.le_trans this (by omega)
  generalize intsOf a (l.take k)=out at hst hle;have hlen:(eIs out).length=out.length:=by simp[eIs]
  have hstep:jI a out l[k]=if p.f=3/\p.n∉out then out++[p.n] else out:=by unfold jI;rw[p1]
  have idx:SV.v (AV.lit (Value.int .i64 (IntKind.i64.wrap ((k:Int)+1))))=SV.v (AV.lit (Value.int .i64 ((k+1:Nat):Int))):=svc (wrap_succ (k:=k) (by omega));have hcn:=xY out p.n (by omega);refine⟨_,by omega,zTZ h,rfl,?_⟩;refine⟨_,by omega,hp',rfl,?_⟩;by_cases h3:p.f=3
  ·refine⟨fun hbs=>?_,fun hbs=>?_⟩<;>first|(exfalso;revert hbs;(simp[h3]);done)|skip
   refine .inl ⟨_,hcn,?_⟩;by_cases h4:p.n∈out
   ·have h4':decide (p.n∈out)=true:=decide_eq_true h4;rw[h4'];refine⟨fun hbs=>?_,fun hbs=>?_⟩<;>first|(exfalso;revert hbs;simp[Kn.form];done)|skip
    refine⟨⟨k+1,h⟩,by simp;omega,⟨rfl,?_,rfl,rfl,idx,trivial⟩,⟨rfl,trivial⟩,rfl⟩;show _=SV.v (AV.sl (eIs (intsOf a (l.take (k+1)))));rw[hst,hstep,if_neg (fun h=>h.2 h4)];rfl
   ·have h4':decide (p.n∈out)=false:=decide_eq_false h4;rw[h4'];refine⟨fun hbs=>?_,fun hbs=>?_⟩<;>first|(exfalso;revert hbs;simp[Kn.form];done)|skip
    refine⟨by rw[hlen];simp;omega,z3K _,z3K [p.n],?_⟩;refine⟨⟨k+1,h⟩,by simp;omega,⟨rfl,?_,rfl,rfl,idx,trivial⟩,⟨rfl,trivial⟩,rfl⟩;show _=SV.v (AV.sl (eIs (intsOf a (l.take (k+1)))));rw[hst,hstep,if_pos ⟨h3,h4⟩];unfold eIs;rw[List.map_append];rfl
  ·refine⟨fun hbs=>?_,fun hbs=>?_⟩<;>first|(exfalso;revert hbs;(simp[h3]);done)|skip
   refine⟨⟨k+1,h⟩,by simp;omega,⟨rfl,?_,rfl,rfl,idx,trivial⟩,⟨rfl,trivial⟩,rfl⟩;show _=SV.v (AV.sl (eIs (intsOf a (l.take (k+1)))));rw[hst,hstep,if_neg (fun h=>h3 h.1)];rfl
 ·have h:k=l.length:=by have h:=of_decide_eq_false h;simp only at h;omega
  subst h;show AV.sl (eIs (intsOf a (l.take l.length)))=_;rw[List.take_length]
theorem zZ9 (n:Nat) (hn:n<=2):zB Tryz.prog zKX [.lit (.int .i64 (n:Nat))] (.sl (zM (List.replicate n wJ))):=by
 have hr:=zVZ (ePt wJ) n hn rfl (fun c hc=>by simp[ePt,AV.cells] at hc;rcases hc with rfl|rfl|rfl|rfl|rfl|rfl|rfl|rfl|rfl|rfl<;>rfl);have e:List.replicate n (ePt wJ)=zM (List.replicate n wJ):=by simp[zM]
 rw[e] at hr;refine zA ttok mixed Tryz.func75 rfl (by rfl) (Nat.le_of_ble_eq_true rfl) (by kernel_rfl) ?_;exact .inl ⟨_,hr,rfl⟩
def afn:Kn->AV
 | .con s _ => .fn (.func zCT) [] [.ptr [.lit (.string s)]]
 | .int x => .fn (.func zCU) [] [.ptr [.lit (.int .i64 x)]]
 | .none => .lit (fnv zDI)
theorem zOY (s:ByteArray) (n:Nat):zB Tryz.prog zLF [.lit (.string s)] (afn (.con s n)):=by
 refine zA ttok mixed Tryz.func40 rfl (by rfl) (Nat.le_of_ble_eq_true rfl) (by kernel_rfl) ?_;exact .inl rfl
theorem zPN (x:Int):zB Tryz.prog zLG [.lit (.int .i64 x)] (afn (.int x)):=by
 refine zA ttok mixed Tryz.func42 rfl (by rfl) (Nat.le_of_ble_eq_true rfl) (by kernel_rfl) ?_;exact .inl rfl
theorem zLU (s:ByteArray) (p:Pt):zB Tryz.prog zCT [ePt p,.ptr [.lit (.string s)]] (.tup [.sl p.eKids,.sb (decide (p.f=4) && decide (p.s=s))]):=by
 refine zA ttok mixed Tryz.func77 rfl (by rfl) (Nat.le_of_ble_eq_true rfl) (by kernel_rfl) ?_;refine⟨fun h=>?_,fun h=>?_⟩
 ·rw[h];exact⟨by decide,rfl⟩
 ·rw[h];exact⟨by decide,rfl⟩
theorem zLQ (x:Int) (p:Pt):zB Tryz.prog zCU [ePt p,.ptr [.lit (.int .i64 x)]] (.tup [.sl [],.sb (decide (p.f=3) && decide (p.n=x))]):=by
 refine zA ttok mixed Tryz.func79 rfl (by rfl) (Nat.le_of_ble_eq_true rfl) (by kernel_rfl) ?_;refine⟨fun h=>?_,fun h=>?_⟩
 ·rw[h];exact⟨by decide,rfl⟩
 ·rw[h];exact⟨by decide,rfl⟩
theorem zMQ (p:Pt):zB Tryz.prog zDI [ePt p] (.tup [.sl [],.sb false]):=by
 refine zA ttok mixed Tryz.func43 rfl (by rfl) (Nat.le_of_ble_eq_true rfl) (by kernel_rfl) ?_;exact rfl
theorem zNX (s:ByteArray):zB Tryz.prog zQ7 [.lit (.string s)] (.agg [.lit (.int .i64 1),.lit (.int .i64 0),.lit (.string s),.lit (.int .i64 0),.lit (.int .i64 0),.lit (.string .empty),.sl [],.sl [],.sl [],.sl []]):=by
 refine zA ttok mixed Tryz.func34 rfl (by rfl) (Nat.le_of_ble_eq_true rfl) (by kernel_rfl) ?_;exact rfl
def Kn.prt (K:Kn) (p:Pt):List Pt:=match K with
 | .con _ _=>p.k
 | _=>[]
def zHK (K:Kn) (a:Nat) (y:ByteArray) (r:Rw) (p:Pt):Rw×Bool:=if p.opn=true then
  (⟨r.ps.take a++List.replicate K.many wJ++r.ps.drop (a+1),r.lost++(if p.f=2 then [(p.s,p.t,y)] else []),r.body⟩,true)
 else (⟨r.ps.take a++K.prt p++r.ps.drop (a+1),r.lost,r.body⟩,K.hits p)
theorem zWG {K:Kn} {a:Nat} {y:ByteArray} {r:Rw} {p:Pt} (hp:r.ps[a]? = some p) (hk:p.f=3->p.k=[]):part K a y r=if (zHK K a y r p).2=true then some (zHK K a y r p).1 else none:=by
 unfold part zHK;rw[hp];simp only;by_cases ho:p.opn=true
 ·simp[ho]
 ·rw[if_neg ho,if_neg ho];cases K with
  | con s n=>rfl
  | int x =>
   by_cases hh:(Kn.int x).hits p=true
   ·have h3:p.f=3:=by simp[Kn.hits] at hh;exact hh.1
    simp only[hh,if_true,Kn.prt,hk h3]
   ·simp only[hh];rfl
  | none=>rfl
abbrev zMY (K:Kn) (a:Nat) (y:ByteArray):List AV:=[.ptr [.lit (.int .i64 (a:Nat))],.ptr [afn K],.ptr [.lit (.int .i64 (K.many:Nat))],.ptr [.lit (.string y)]]
theorem zU3 (F:Int) (b:Nat->Int) (K:Kn) (r:Rw) (a:Nat) (y:ByteArray) {p:Pt} (hp:r.ps[a]? = some p) (hkk:p.k.length<=2) (hm:K.many<=2) (hb:r.ps.length<10000) (hlo:r.lost.length<10000) :
  zB Tryz.prog jV (eRw F b r::zMY K a y) (.tup [eRw F b (zHK K a y r p).1,.sb (zHK K a y r p).2]):=by
 have ha:a<r.ps.length:=(List.getElem?_eq_some_iff.1 hp).1;have hp':(zM r.ps)[a]? = some (ePt p):=by simp[zM,hp]
 have wa:IntKind.i64.wrap ((a:Int)+1)=((a+1:Nat):Int):=wrap_succ (by omega);have hlen:=zFU r.ps;have hop:=zTI p;have hw:=zZ9 K.many hm;have hv:=zNX y;have e1:List.drop (Int.toNat 0) (List.take (Int.toNat (a:Int)) (zM r.ps))=zM (r.ps.take a):=z3J r.ps a;have e2:List.drop (Int.toNat (IntKind.i64.wrap ((a:Int)+1))) (List.take (Int.toNat (((zM r.ps).length:Nat):Int)) (zM r.ps))=zM (r.ps.drop (a+1)):=by
  rw[wa];simp only[Int.toNat_natCast,List.take_length,zM,List.map_drop]
 have cc:∀m:List Pt,m.length<=2->zB Tryz.prog zAF [.sl [.sl (List.drop (Int.toNat 0) (List.take (Int.toNat (a:Int)) (zM r.ps))),.sl (zM m),.sl (List.drop (Int.toNat (IntKind.i64.wrap ((a:Int)+1))) (List.take (Int.toNat (((zM r.ps).length:Nat):Int)) (zM r.ps)))]]
   (.sl (zM (r.ps.take a++m++r.ps.drop (a+1)))):=fun m hml=>by
  rw[e1,e2];have:=zQD [zM (r.ps.take a),zM m,zM (r.ps.drop (a+1))] (by simp) (fun l hl=>by simp at hl;rcases hl with rfl|rfl|rfl<;>exact zJV _) (by simp[zM];omega);rw[show [zM (r.ps.take a),zM m,zM (r.ps.drop (a+1))].flatten=zM (r.ps.take a++m++r.ps.drop (a+1)) by simp[zM]] at this;exact this
 have hels:=p.eKids_eq;have sl1:(0:Int)<=0/\(0:Int)<=(a:Nat)/\((a:Nat):Int)<=((zM r.ps).length:Nat):=⟨by omega,by omega,by rw[hlen];omega⟩
 have sl2:(0:Int)<=IntKind.i64.wrap ((a:Int)+1)/\IntKind.i64.wrap ((a:Int)+1)<=((zM r.ps).length:Nat):=by rw[wa,hlen];omega
 have hll:(eLs r.lost).length=r.lost.length:=by simp[eLs]
 have eL1:List.drop (Int.toNat 0) (List.take (Int.toNat (((eLs r.lost).length:Nat):Int)) (eLs r.lost))=eLs r.lost:=by simp
 have tail:∀(m:List Pt) (is:Bool),m.length<=2->Wsem Tryz.prog (zBI (zBI (zBI (zBI (bodyC Tryz.f74))))) (mkC {vs:=[(1,.v (.ptr [.lit (.int .i64 (a:Nat))])),(4,.v (.ptr [.lit (.string y)])),(5,.box 0 (eRw F b r)),(6,.box 0 (eRw 0 (fun _=>0) ⟨[],[],0⟩)),(8,.box 0 (ePt p)),(9,.v (.sl (zM m))),(10,.v (.sb is))]})
   (fun c=>zH1 tt Tryz.f74.results.toList (.tup [eRw F b ⟨r.ps.take a++m++r.ps.drop (a+1),r.lost++(if p.f=2 then [(p.s,p.t,y)] else []),r.body⟩,.sb is]) (den c)) (fun _ _=>False) (fun c=>zH1 tt Tryz.f74.results.toList (.tup [eRw F b ⟨r.ps.take a++m++r.ps.drop (a+1),r.lost++(if p.f=2 then [(p.s,p.t,y)] else []),r.body⟩,.sb is]) (den c)):=fun m is hml=>by
  have c1:=cc m hml;refine Wsem.of ttok mixed ?_;refine⟨sl1.1,sl1.2.1,sl1.2.2,rfl,.inl rfl,?_⟩;refine⟨sl2.1,sl2.2,Int.le_refl _,.inr (zJV _),?_⟩;refine .inl ⟨_,c1,?_⟩;refine⟨by kernel_rfl,?_⟩;by_cases h2:p.f=2
  ·have fin:∀L:List AV,L=eLs r.lost->AV.tup [.agg [.sl (zM (r.ps.take a++m++r.ps.drop (a+1))),.sl (L++[eL (p.s,p.t,y)]),.lit (.int .i64 F),.lit (.int .i64 (b r.body)),.lit (.string .empty),.lit (.int .i64 0),.lit (.int .i64 0),.lit (.string .empty),.sl [],.sl [],.sl [],.sl []],.sb is] =
     AV.tup [eRw F b ⟨r.ps.take a++m++r.ps.drop (a+1),r.lost++(if p.f=2 then [(p.s,p.t,y)] else []),r.body⟩,.sb is]:=fun L hL=>by
    rw[hL,if_pos h2];unfold eRw;simp[eLs]
   refine⟨fun hbs=>?_,fun hbs=>?_⟩<;>first|(exfalso;revert hbs;(simp[h2]);done)|skip
   refine⟨by decide,Int.natCast_nonneg _,Int.le_refl _,rfl,.inl rfl,?_⟩;refine .inl ⟨_,hv,?_⟩;refine⟨by rw[eL1,hll];simp;omega,by rw[eL1];exact zVN _,zVN [(p.s,p.t,y)],?_⟩;refine⟨by kernel_rfl,?_⟩;exact fin _ eL1
  ·refine⟨fun hbs=>?_,fun hbs=>?_⟩<;>first|(exfalso;revert hbs;(simp[h2]);done)|skip
   rw[if_neg h2,List.append_nil];exact rfl
 unfold zHK;refine zBG ttok mixed Tryz.func74 rfl (by rfl) (Nat.le_of_ble_eq_true rfl) (by kernel_rfl) ?_;refine Wsem.seq ttok mixed ?_;refine Wsem.seq ttok mixed ?_;refine⟨_,by omega,hp',rfl,?_⟩;refine Wsem.seq ttok mixed ?_;cases ho:p.opn with
 | true =>
  rw[ho] at hop;rw[if_pos rfl];have t:=tail (List.replicate K.many wJ) true (by simpa using hm);cases K with
  | con s n =>
   refine .inl ⟨_,zLU s p,?_⟩;refine Wsem.seq ttok mixed ?_;refine .inl ⟨_,hop,?_⟩;refine⟨fun hbs=>?_,fun hbs=>?_⟩<;>first|(exfalso;revert hbs;simp[Kn.form];done)|skip
   refine .inl ⟨_,hw,?_⟩;refine Wsem.cut _ ?_ t;exact⟨⟨rfl,rfl,rfl,rfl,rfl,rfl,rfl,trivial⟩,trivial,rfl⟩
  | int x =>
   refine .inl ⟨_,zLQ x p,?_⟩;refine Wsem.seq ttok mixed ?_;refine .inl ⟨_,hop,?_⟩;refine⟨fun hbs=>?_,fun hbs=>?_⟩<;>first|(exfalso;revert hbs;simp[Kn.form];done)|skip
   refine .inl ⟨_,hw,?_⟩;refine Wsem.cut _ ?_ t;exact⟨⟨rfl,rfl,rfl,rfl,rfl,rfl,rfl,trivial⟩,trivial,rfl⟩
  | none =>
   refine .inl ⟨_,zMQ p,?_⟩;refine Wsem.seq ttok mixed ?_;refine .inl ⟨_,hop,?_⟩;refine⟨fun hbs=>?_,fun hbs=>?_⟩<;>first|(exfalso;revert hbs;simp[Kn.form];done)|skip
   refine .inl ⟨_,hw,?_⟩;refine Wsem.cut _ ?_ t;exact⟨⟨rfl,rfl,rfl,rfl,rfl,rfl,rfl,trivial⟩,trivial,rfl⟩
 | false =>
  rw[ho] at hop;rw[if_neg (by simp)];have hf2:p.f≠2:=fun h=>by simp[Pt.opn,h] at ho
  cases K with
  | con s n =>
   have t:=tail p.k ((.con s n:Kn).hits p) (by first|exact hkk|simp);rw[if_neg hf2,show r.lost++[]=r.lost from List.append_nil _] at t;refine .inl ⟨_,zLU s p,?_⟩;refine Wsem.seq ttok mixed ?_;refine .inl ⟨_,hop,?_⟩;refine⟨fun hbs=>?_,fun hbs=>?_⟩<;>first|(exfalso;revert hbs;simp[Kn.form];done)|skip
   refine Wsem.cut _ ?_ t;refine⟨⟨rfl,rfl,rfl,rfl,rfl,?_,rfl,trivial⟩,trivial,rfl⟩;rw[<-hels];exact rfl
  | int x =>
   have t:=tail [] ((.int x:Kn).hits p) (by first|exact hkk|simp);rw[if_neg hf2,show r.lost++[]=r.lost from List.append_nil _] at t;refine .inl ⟨_,zLQ x p,?_⟩;refine Wsem.seq ttok mixed ?_;refine .inl ⟨_,hop,?_⟩;refine⟨fun hbs=>?_,fun hbs=>?_⟩<;>first|(exfalso;revert hbs;simp[Kn.form];done)|skip
   refine Wsem.cut _ ?_ t;refine⟨⟨rfl,rfl,rfl,rfl,rfl,?_,rfl,trivial⟩,trivial,rfl⟩;exact rfl
  | none =>
   have t:=tail [] ((.none:Kn).hits p) (by first|exact hkk|simp);rw[if_neg hf2,show r.lost++[]=r.lost from List.append_nil _] at t;refine .inl ⟨_,zMQ p,?_⟩;refine Wsem.seq ttok mixed ?_;refine .inl ⟨_,hop,?_⟩;refine⟨fun hbs=>?_,fun hbs=>?_⟩<;>first|(exfalso;revert hbs;simp[Kn.form];done)|skip
   refine Wsem.cut _ ?_ t;refine⟨⟨rfl,rfl,rfl,rfl,rfl,?_,rfl,trivial⟩,trivial,rfl⟩;exact rfl
theorem z1O (F:Int) (b:Nat->Int) (K:Kn) (l:List Rw) (a:Nat) (y:ByteArray) (hc:∀r∈l,zHS a r) (hm:K.many<=2) (hb:l.length<10000) :
  zB Tryz.prog jS [.sl (yL F b l),.fn (.func jV) [] (zMY K a y)] (.sl (yL F b (parts K a y l))):=by
 refine zA ttok mixed Tryz.func73 rfl (by rfl) (Nat.le_of_ble_eq_true rfl) (by kernel_rfl) ?_;refine⟨{k:Nat // k<=l.length},fun k=>{vs:=[(1,.v (.fn (.func jV) [] (zMY K a y))),(5,.v (.sl (yL F b (parts K a y (l.take k.1))))),(10,.v (.sl (yL F b l))),(11,sv (l.length:Nat)),(12,sv (k.1:Nat))],ow:=[(5,0,13)]},
  fun k=>l.length-k.1,⟨0,Nat.zero_le _⟩,⟨⟨rfl,rfl,rfl,svc (by rw[jQ]),rfl,trivial⟩,⟨trivial,trivial⟩,rfl⟩,?_⟩
 rintro⟨k,hk⟩;refine⟨fun h=>?_,fun h=>?_⟩
 ·have h:k<l.length:=by have h:=of_decide_eq_true h;simp only at h;omega
  obtain⟨p,p1,p2,p3,p4,p5⟩:=hc _ (List.getElem_mem h);have hq:=zU3 F b K l[k] a y p1 p3 hm p4 p5;have hpf:=zWG (K:=K) (y:=y) p1 (fun h3=>by
   rcases p2 with h|h|h|h
   ·omega
   ·omega
   ·exact h.2
   ·omega)
  have hs:=zQ9 K a y (l.take k) l[k];rw[<-List.take_succ_eq_append_getElem h,hpf] at hs;have hle:=zBU K a y (l.take k);have idx:SV.v (AV.lit (Value.int .i64 (IntKind.i64.wrap ((k:Int)+1))))=SV.v (AV.lit (Value.int .i64 ((k+1:Nat):Int))):=svc (wrap_succ (k:=k) (by omega));refine⟨_,by omega,zTZ h,rfl,?_⟩;refine .inl ⟨_,hq,?_⟩;cases hx:(zHK K a y l[k] p).2 with
  | false =>
   rw[hx] at hs;simp only[Bool.false_eq_true,if_false,List.append_nil] at hs;refine⟨fun hbs=>?_,fun hbs=>?_⟩<;>first|(exfalso;revert hbs;simp[Kn.form];done)|skip
   refine⟨⟨k+1,h⟩,by simp;omega,⟨rfl,?_,rfl,rfl,idx,trivial⟩,⟨rfl,trivial⟩,rfl⟩;show _=SV.v (AV.sl (yL F b (parts K a y (l.take (k+1)))));rw[hs];rfl
  | true =>
   rw[hx] at hs;simp only[if_true] at hs;refine⟨fun hbs=>?_,fun hbs=>?_⟩<;>first|(exfalso;revert hbs;simp[Kn.form];done)|skip
   refine⟨by rw[jQ];simp at hle⊢;omega,zIP _ _ _,wW (f:=eRw F b) (fun _=>rfl) [(zHK K a y l[k] p).1],?_⟩;refine⟨⟨k+1,h⟩,by simp;omega,⟨rfl,?_,rfl,rfl,idx,trivial⟩,⟨rfl,trivial⟩,rfl⟩;show _=SV.v (AV.sl (yL F b (parts K a y (l.take (k+1)))));rw[hs];unfold yL;rw[List.map_append];rfl
 ·have h:k=l.length:=by have h:=of_decide_eq_false h;simp only at h;omega
  subst h;show AV.sl (yL F b (parts K a y (l.take l.length)))=_;rw[List.take_length]
theorem zA5 (F:Int) (b:Nat->Int) (K:Kn) (l:List Rw) (a:Nat) (y:ByteArray) (hc:∀r∈l,zHS a r) (hm:K.many<=2) (hb:l.length<10000) :
  zB Tryz.prog zK8 [.sl (yL F b l),.lit (.int .i64 (a:Nat)),.lit (.int .i64 (K.many:Nat)),afn K,.lit (.string y)] (.sl (yL F b (parts K a y l))):=by
 have hs:=z1O F b K l a y hc hm hb;refine zA ttok mixed Tryz.func39 rfl (by rfl) (Nat.le_of_ble_eq_true rfl) (by kernel_rfl) ?_;cases K with
 | con s n =>
  refine .inl ?_;refine .inl ⟨_,hs,?_⟩;exact rfl
 | int x =>
  refine .inl ?_;refine .inl ⟨_,hs,?_⟩;exact rfl
 | none =>
  refine .inl ?_;refine .inl ⟨_,hs,?_⟩;exact rfl
theorem z4U (l:List Int) (hne:l≠[]) (h0:∀x∈l,0<=x) (hl:l.length<10000):zB Tryz.prog zD6 [.sl (eIs l)] (.lit (.int .i64 (l.foldl max 0))):=by
 have hpos:0<l.length:=List.length_pos_iff.2 hne;have hll:=zW1 l;refine zA ttok mixed Tryz.func64 rfl (by rfl) (Nat.le_of_ble_eq_true rfl) (by kernel_rfl) ?_;refine⟨fun h=>?_,fun _=>?_⟩
 ·have h:=of_decide_eq_true h;rw[hll] at h;omega
 refine⟨_,by omega,zVG hpos,rfl,?_⟩;refine⟨{k:Nat // 1<=k/\k<=l.length},fun k=>{vs:=[(0,.v (.sl (eIs l))),(3,sv ((l.take k.1).foldl max 0)),(4,sv (k.1:Nat))]},
  fun k=>l.length-k.1,⟨1,Nat.le_refl _,hpos⟩,⟨⟨rfl,svc ?_,rfl,trivial⟩,trivial,rfl⟩,?_⟩
 ·cases l with
  | nil=>simp at hpos
  | cons x l=>have:=h0 x (by simp);simp;omega
 rintro⟨k,hk1,hk⟩;refine⟨fun h=>?_,fun h=>?_⟩
 ·have h:k<l.length:=by have h:=of_decide_eq_true h;rw[hll] at h;simp only at h;omega
  refine⟨_,by omega,zVG h,rfl,?_⟩;refine⟨⟨k+1,by omega,h⟩,by simp;omega,⟨rfl,svc ?_,svc (wrap_succ (k:=k) (by omega)),trivial⟩,trivial,rfl⟩;rw[List.take_succ_eq_append_getElem h,zYC];simp only;split<;>omega
 ·have h:k=l.length:=by have h:=of_decide_eq_false h;rw[hll] at h;simp only at h;omega
  subst h;show AV.lit (.int .i64 ((l.take l.length).foldl max 0))=_;rw[List.take_length]
theorem zWP {t:Nat} (h0:0<t) (h5:t<5):∃q qs,qA t=q::qs:=by
 match t,h0,h5 with
 | 1,_,_|2,_,_|3,_,_|4,_,_=>exact⟨_,_,rfl⟩
 | n+5,_,h=>omega
theorem z0Q (s:ByteArray) (L K:List AV) (A B:List Pt) (h:L=zM A) (k:K=zM B):AV.tup [.sl ([aPt 4 0 s L .no []]++K),.sb true]=zET (some (zI8 s A::B)):=by
 rw[h,k,z3I];rfl
theorem zS4 (F:Int) (b:Nat->Int):∀(n:Nat) (l:List Rw) (cs:List Nat),RowsTy cs n l ->
  zB Tryz.prog zAA [cAV,.sl (yL F b l),.lit (.int .i64 (cs.length:Nat))] (zET (miss n l cs.length)):=by
 intro n;induction n with
 | zero=>intro l cs h;have:=h.fuel;omega
 | succ n ih =>
  intro l cs h;cases cs with
  | nil =>
   refine zA ttok mixed Tryz.func25 rfl (by rfl) (Nat.le_of_ble_eq_true rfl) (by kernel_rfl) ?_;refine⟨fun _=>?_,fun h=>by simp at h⟩;refine⟨by kernel_rfl,?_⟩;cases l with
   | nil=>exact rfl
   | cons r l=>exact (congrArg (fun b=>AV.tup [.sl [],.sb b]) (show decide ((((yL F b (r::l)).length:Nat):Int)=0)=false by simp[yL];omega))
  | cons t cs =>
   have hcap:=h.cap;have hcl:cs.length<10000:=by have:=h.fuel;simp at this;omega
   have wc:IntKind.i64.wrap (((cs.length+1:Nat):Int)-1)=(cs.length:Int):=zGG (by omega);have hC:=zT6 F b l (t::cs) 0 t rfl h.tys (by simp;have:=h.fuel;simp at this;omega) h.len;have rest:zB Tryz.prog zBC [.ptr [cAV],.ptr [.sl (yL F b l)],.ptr [.lit (.int .i64 ((cs.length+1:Nat):Int))]] (zET (miss n (parts .none 0 .empty l) cs.length)):=by
    have hf:=zA5 F b .none l 0 .empty h.ok (by simp[Kn.many]) h.len;have hrec:=ih (parts .none 0 .empty l) cs h.none;rw[<-wc] at hrec;refine zA ttok mixed Tryz.func63 rfl (by rfl) (Nat.le_of_ble_eq_true rfl) (by kernel_rfl) ?_;refine .inl ⟨_,hf,?_⟩;refine .inl ⟨_,hrec,?_⟩;cases miss n (parts .none 0 .empty l) cs.length<;>exact⟨by kernel_rfl,rfl⟩
   rcases zA2 (a:=0) (t:=t) rfl h.tys with⟨hno,hn4⟩|⟨hks,ht0,ht5,h4⟩
   ·rw[hno] at hC;have hm:miss (n+1) l (t::cs).length=match miss n (parts .none 0 .empty l) cs.length with
      | some m=>some (zLZ (intsOf 0 l)::m)
      | none=>(intsOf 0 l).findSome? fun x=>(miss n (parts (.int x) 0 .empty l) cs.length).map fun m=>zK2 x::m:=by
     simp only[List.length_cons,miss,hno]
     rfl
    rw[hm];have hI:=zT9 F b l 0 h.ok h.len;have hmem:∀x∈intsOf 0 l,t=0/\0<=x/\x<1000:=zO9 (a:=0) (t:=t) rfl h.tys (fun x hx=>by simp at hx);have hil:(intsOf 0 l).length<10000:=by have:=zDS 0 l [];have:=h.len;unfold intsOf;simp at *;omega
    have hpar:=fun (x:Int)=>zA5 F b (.int x) l 0 .empty h.ok (by simp[Kn.many]) h.len;have hrx:∀x∈intsOf 0 l,zB Tryz.prog zAA _ _:=fun x hx=>ih (parts (.int x) 0 .empty l) cs (h.int (hmem x hx).1);have hMx:=z4U (intsOf 0 l);have hmb:=zW3 (intsOf 0 l) 0 (fun x hx=>(hmem x hx).2.2) (by decide) (by decide);have hml0:=zA6 n (parts .none 0 .empty l) cs.length;generalize intsOf 0 l=is at *;generalize miss n (parts .none 0 .empty l) cs.length=mm at rest hml0⊢;obtain⟨R,hR⟩:∃R,R=(match mm with
      | some m=>some (zLZ is::m)
      | none=>is.findSome? fun x=>(miss n (parts (.int x) 0 .empty l) cs.length).map fun m=>zK2 x::m):=⟨_,rfl⟩
    rw[<-hR];have tail:Wsem Tryz.prog (zBI (zBI (zBI (zBI (zBI (zBI (zBI (bodyC Tryz.f25)))))))) (mkC {vs:=[(3,.v (.ptr [cAV])),(4,.v (.ptr [.sl (yL F b l)])),(5,.v (.ptr [.lit (.int .i64 ((cs.length+1:Nat):Int))])),(8,.v (.fn (.func zBC) [] [.ptr [cAV],.ptr [.sl (yL F b l)],.ptr [.lit (.int .i64 ((cs.length+1:Nat):Int))]])),(16,.box 0 (ePt (zLZ is))),(17,.v (.sl (eIs is)))]})
      (fun c=>zH1 tt Tryz.f25.results.toList (zET R) (den c)) (fun _ _=>False)
      (fun c=>zH1 tt Tryz.f25.results.toList (zET R) (den c)):=by
     refine Wsem.of ttok mixed ?_;refine .inl ⟨_,rest,?_⟩;cases mm with
     | some m =>
      simp only at hR;subst hR;have hml:=hml0 m rfl;refine⟨fun hbs=>?_,fun hbs=>?_⟩<;>first|(exfalso;revert hbs;simp[Kn.form];done)|skip
      refine⟨by simp[zM];omega,zCV rfl,zJV _,?_⟩;exact zXG _ _ _ rfl
     | none =>
      simp only at hR;refine⟨fun hbs=>?_,fun hbs=>?_⟩<;>first|(exfalso;revert hbs;simp[Kn.form];done)|skip
      refine⟨{i:Nat // i<=is.length/\∀j x,j<i->is[j]? = some x->(miss n (parts (.int x) 0 .empty l) cs.length).map (fun m=>zK2 x::m)=none},
       fun i=>{vs:=[(3,.v (.ptr [cAV])),(4,.v (.ptr [.sl (yL F b l)])),(5,.v (.ptr [.lit (.int .i64 ((cs.length+1:Nat):Int))])),(94,.v (.sl (eIs is))),(95,sv (is.length:Nat)),(96,sv (i.1:Nat))]},
       fun i=>is.length-i.1,⟨0,Nat.zero_le _,fun j y h=>by omega⟩,⟨⟨rfl,rfl,rfl,rfl,svc (by rw[zW1]),rfl,trivial⟩,trivial,rfl⟩,?_⟩
      rintro⟨k,hk,hinv⟩;refine⟨fun h2=>?_,fun h2=>?_⟩
      ·have h2:k<is.length:=by have h2:=of_decide_eq_true h2;simp only at h2;omega
       have hq:=List.getElem?_eq_getElem h2;have hA:=hpar is[k];have hO:=zPN is[k];have hRc:=hrx is[k] (List.getElem_mem h2);rw[<-wc] at hRc;refine⟨_,by omega,zVG h2,rfl,?_⟩;refine .inl ⟨_,hO,?_⟩;refine .inl ⟨_,hA,?_⟩;refine .inl ⟨_,hRc,?_⟩;cases hy:miss n (parts (.int is[k]) 0 .empty l) cs.length with
       | some m =>
        have hml:=zA6 _ _ _ _ hy;refine⟨by kernel_rfl,?_⟩;refine⟨fun hbs=>?_,fun hbs=>?_⟩<;>first|(exfalso;revert hbs;simp[Kn.form];done)|skip
        refine⟨by simp[zM];omega,zCV rfl,zJV _,?_⟩;have hR2:R=some (zK2 is[k]::m):=by rw[hR,zTT hq hinv (b:=zK2 is[k]::m) (by rw[hy];rfl)]
        subst hR2;exact zXG (zK2 is[k]) _ _ rfl
       | none =>
        refine⟨by kernel_rfl,?_⟩;refine⟨fun hbs=>?_,fun hbs=>?_⟩<;>first|(exfalso;revert hbs;simp[Kn.form];done)|skip
        refine⟨⟨k+1,h2,fun j y hj hyy=>?_⟩,by simp;omega,⟨rfl,rfl,rfl,rfl,rfl,svc (wrap_succ (k:=k) (by omega)),trivial⟩,trivial,rfl⟩;rcases Nat.lt_or_ge j k with hlt|hge
        ·exact hinv j y hlt hyy
        ·have:j=k:=by omega
         subst this;rw[hq] at hyy;injection hyy with hyy;subst hyy
         rw[hy];rfl
      ·have h2:k=is.length:=by have h2:=of_decide_eq_false h2;simp only at h2;omega
       have hR2:R=none:=by rw[hR];exact zN3 (fun j y hj hy=>hinv j y (by omega) hy)
       subst hR2;exact rfl
    refine zBG ttok mixed Tryz.func25 rfl (by rfl) (Nat.le_of_ble_eq_true rfl) (by kernel_rfl) ?_;refine Wsem.seq ttok mixed ?_;refine Wsem.seq ttok mixed ?_;refine⟨fun h=>by simp at h;omega,fun _=>?_⟩;refine Wsem.seq ttok mixed ?_;refine .inl ?_;refine Wsem.seq ttok mixed ?_;refine .inl ⟨_,hC,?_⟩;refine Wsem.seq ttok mixed ?_;refine Wsem.seq ttok mixed ?_;refine .inl ⟨_,hI,?_⟩;refine Wsem.seq ttok mixed ?_;by_cases hi0:is=[]
    ·have e:zLZ is=wJ:=if_pos hi0;refine⟨fun hbs=>?_,fun hbs=>?_⟩<;>first|(exfalso;revert hbs;(simp[hi0,eIs]);done)|skip
     refine Wsem.cut _ ?_ tail;refine⟨⟨rfl,rfl,rfl,rfl,?_,rfl,trivial⟩,trivial,rfl⟩;rw[e];exact rfl
    ·have e:zLZ is=zK2 (is.foldl max 0+1):=if_neg hi0;have hlp:0<(eIs is).length:=by rw[zW1];exact List.length_pos_iff.2 hi0
     have hM:=hMx hi0 (fun x hx=>(hmem x hx).2.1) hil;have wm:IntKind.i64.wrap (is.foldl max 0+1)=is.foldl max 0+1:=wrap_in (by unfold InR;omega);refine⟨fun _=>?_,fun h=>?_⟩
     ·refine .inl ⟨_,hM,?_⟩;refine Wsem.cut _ ?_ tail;refine⟨⟨rfl,rfl,rfl,rfl,?_,rfl,trivial⟩,trivial,rfl⟩;rw[e];show SV.box 0 (aPt 3 (IntKind.i64.wrap (is.foldl max 0+1)) .empty [] .no [])=_;rw[wm];exact rfl
     ·have h:=of_decide_eq_false h;omega
   ·rw[hks] at hC;have hm:miss (n+1) l (t::cs).length=(qA t).findSome? fun q=>(miss n (parts (.con q.1 q.2.length) 0 .empty l) (q.2.length+cs.length)).map fun m=>zI8 q.1 (m.take q.2.length)::m.drop q.2.length:=by
     simp only[List.length_cons,miss,hks]
    rw[hm];have h3:=zDT t;obtain⟨q0,qs,hqq⟩:=zWP ht0 ht5;have hat:∀q∈qA t,∃fs,(q.1,fs)∈zO t/\fs.length=q.2.length:=fun q hq=>zC5 hq;rw[hqq] at hC h3 hat⊢;obtain⟨R,hR⟩:∃R,R=((q0::qs).findSome? fun q=>(miss n (parts (.con q.1 q.2.length) 0 .empty l) (q.2.length+cs.length)).map fun m=>zI8 q.1 (m.take q.2.length)::m.drop q.2.length):=⟨_,rfl⟩
    rw[<-hR];refine zA ttok mixed Tryz.func25 rfl (by rfl) (Nat.le_of_ble_eq_true rfl) (by kernel_rfl) ?_;refine⟨fun h=>by simp at h;omega,fun _=>?_⟩;refine .inl ?_;refine .inl ⟨_,hC,?_⟩;refine⟨{i:Nat // i<=(q0::qs).length/\∀j q,j<i->(q0::qs)[j]? = some q->(miss n (parts (.con q.1 q.2.length) 0 .empty l) (q.2.length+cs.length)).map (fun m=>zI8 q.1 (m.take q.2.length)::m.drop q.2.length)=none},
     fun i=>{vs:=[(3,.v (.ptr [cAV])),(4,.v (.ptr [.sl (yL F b l)])),(5,.v (.ptr [.lit (.int .i64 ((cs.length+1:Nat):Int))])),(35,.v (.sl (wB (q0::qs)))),(36,sv ((q0::qs).length:Nat)),(37,sv (i.1:Nat))]},
     fun i=>(q0::qs).length-i.1,⟨0,Nat.zero_le _,fun j y h=>by omega⟩,⟨⟨rfl,rfl,rfl,rfl,svc (by rw[zZM]),rfl,trivial⟩,trivial,rfl⟩,?_⟩
    rintro⟨i,hi,hinv⟩;refine⟨fun h1=>?_,fun h1=>?_⟩
    ·have h1:i<(q0::qs).length:=by have h1:=of_decide_eq_true h1;simp only at h1;omega
     obtain⟨fs,hfs,hfl⟩:=hat _ (List.getElem_mem h1);have hq:=List.getElem?_eq_getElem h1;have hg:(wB (q0::qs))[i]? = some (zO1 (q0::qs)[i]):=zD9 h1;generalize (q0::qs)[i]=q at hfs hfl hq hg;have hf2:fs.length<=2:=(wQ hfs).1;have hrec:=ih (parts (.con q.1 fs.length) 0 .empty l) (fs++cs) (h.con hfs h4);have hA:=zA5 F b (.con q.1 fs.length) l 0 .empty h.ok (by simp[Kn.many];exact hf2) h.len;have hO:=zOY q.1 fs.length;have el:((fs.length:Nat):Int)=((zQ q.2).length:Nat):=by rw[z1S,hfl]
     have ec:IntKind.i64.wrap (IntKind.i64.wrap (((zQ q.2).length:Nat)+((cs.length+1:Nat):Int))-1)=(((fs++cs).length:Nat):Int):=by
      rw[<-el,show ((fs.length:Nat):Int)+((cs.length+1:Nat):Int)=((fs.length+cs.length+1:Nat):Int) by omega,yB (by omega),zGG (by omega),List.length_append]
     rw[show ((Kn.many (.con q.1 fs.length):Nat):Int)=((zQ q.2).length:Nat) from el] at hA;rw[<-ec] at hrec;refine⟨_,by omega,hg,rfl,?_⟩;refine .inl ⟨_,hO,?_⟩;refine .inl ⟨_,hA,?_⟩;refine .inl ⟨_,hrec,?_⟩;rw[List.length_append];cases hx:miss n (parts (.con q.1 fs.length) 0 .empty l) (fs.length+cs.length) with
     | none =>
      refine⟨by kernel_rfl,?_⟩;refine⟨fun hbs=>?_,fun hbs=>?_⟩<;>first|(exfalso;revert hbs;simp[Kn.form];done)|skip
      refine⟨⟨i+1,h1,fun j y hj hy=>?_⟩,(by show (q0::qs).length-(i+1)<(q0::qs).length-i;omega),⟨rfl,rfl,rfl,rfl,rfl,svc (wrap_succ (k:=i) (by omega)),trivial⟩,trivial,rfl⟩;rcases Nat.lt_or_ge j i with hlt|hge
      ·exact hinv j y hlt hy
      ·have:j=i:=by omega
       subst this;rw[hq] at hy;injection hy with hy;subst hy
       rw[<-hfl,hx];rfl
     | some m =>
      have hml:=zA6 _ _ _ _ hx;have hpm:=zFU m;refine⟨by kernel_rfl,?_⟩;refine⟨fun hbs=>?_,fun hbs=>?_⟩<;>first|(exfalso;revert hbs;simp[Kn.form];done)|skip
      have e1:List.drop (Int.toNat 0) (List.take (Int.toNat ((zQ q.2).length:Nat)) (zM m))=zM (m.take q.2.length):=by rw[<-hfl,<-el];simp[zM]
      have e2:List.drop (Int.toNat ((zQ q.2).length:Nat)) (List.take (Int.toNat (((zM m).length:Nat):Int)) (zM m))=zM (m.drop q.2.length):=by rw[<-el,hfl,Int.toNat_natCast,Int.toNat_natCast,List.take_length];simp[zM]
      refine⟨by decide,by omega,by rw[hpm];omega,rfl,.inl rfl,?_⟩;refine⟨by kernel_rfl,?_⟩;refine⟨by omega,by rw[hpm];omega,Int.le_refl _,.inr (zJV _),?_⟩;refine⟨by rw[e2];simp[zM];omega,zCV rfl,by rw[e2];exact zJV _,?_⟩;refine⟨by kernel_rfl,?_⟩;have hR2:R=some (zI8 q.1 (m.take q.2.length)::m.drop q.2.length):=by rw[hR,zTT hq hinv (b:=zI8 q.1 (m.take q.2.length)::m.drop q.2.length) (by rw[<-hfl,hx];rfl)]
      subst hR2;exact z0Q q.1 _ _ _ _ e1 e2
    ·have h1:i=(q0::qs).length:=by have h1:=of_decide_eq_false h1;simp only at h1;omega
     have hR2:R=none:=by rw[hR];exact zN3 (fun j y hj hy=>hinv j y (by omega) hy)
     subst hR2;exact rfl
theorem zE0 {t:Nat} {l:List Pt} (h:PatsOk t l):zB Tryz.prog zH7 [cAV,.sl (zM l)] (z5V (zKE l)):=by
 have hl:=h.2.1;have h1:=rows_ok l (by omega);have h2:zB Tryz.prog zAA [cAV,.sl (yL 0 (fun _=>0) (zI 0 l)),.lit (.int .i64 1)] (zET (miss 300 (zI 0 l) 1)):=zS4 0 (fun _=>0) 300 (zI 0 l) [t] h.all;unfold zKE;have hml0:=zA6 300 (zI 0 l) 1;generalize miss 300 (zI 0 l) 1=mm at h2 hml0;refine zA ttok mixed Tryz.func8 rfl (by rfl) (Nat.le_of_ble_eq_true rfl) (by kernel_rfl) ?_;refine .inl ⟨_,h1,.inl ⟨_,h2,?_⟩⟩
 match mm,hml0 with
 | none,_ =>
  refine⟨fun hbs=>?_,fun hbs=>?_⟩<;>first|(exfalso;revert hbs;simp[Kn.form];done)|skip
  exact rfl
 | some [p],_ =>
  refine⟨fun hbs=>?_,fun hbs=>?_⟩<;>first|(exfalso;revert hbs;simp[Kn.form];done)|skip
  refine⟨ePt p,by omega,rfl,rfl,?_⟩;exact rfl
 | some [],hml0=>exact absurd (hml0 [] rfl) (by simp)
 | some (p::q::m),hml0=>exact absurd (hml0 _ rfl) (by simp)
theorem zHI (t:Nat) (ht:t<5):zB Tryz.prog zFZ [.lit (.int .i64 (t:Nat))] (eTy (wTy t)):=by
 refine zA ttok mixed Tryz.func12 rfl (by rfl) (Nat.le_of_ble_eq_true rfl) (by kernel_rfl) ?_;exact .inl ⟨_,yR t ht,rfl⟩
abbrev pN:Pt := .mk 4 0 sN .no [wTy 0] []
abbrev z5Y:Pt := .mk 4 0 sC .no [wTy 0] [wJ,pN]
abbrev pWW:Pt := .mk 4 0 sC .no [] [wJ,wJ]
abbrev pI (n:Int):Pt := .mk 3 n .empty .no [] []
theorem zZT:TyP 2 pN := .con 2 _ [] rfl (List.Mem.head _) rfl (fun i x u hx=>by simp[Pt.k] at hx)
theorem tyC {ts:List Tp} {a b:Pt} (ha:TyP 0 a) (hb:TyP 2 b):TyP 2 (.mk 4 0 sC .no ts [a,b]) := .con 2 _ [0,2] rfl (List.Mem.tail _ (List.Mem.head _)) rfl (fun i x u hx hu=>by
 match i with
 | 0=>simp[Pt.k] at hx hu;subst hx;subst hu;exact ha
 | 1=>simp[Pt.k] at hx hu;subst hx;subst hu;exact hb
 | i+2=>simp[Pt.k] at hx)
theorem z5K:PatsOk 2 [pN,pWW]:=⟨by decide,by decide,fun p hp=>by
 simp at hp;rcases hp with rfl|rfl
 ·exact⟨zZT,by decide⟩
 ·exact⟨tyC (zIK 0) (zIK 2),by decide⟩⟩
theorem z6D:PatsOk 2 [pN,z5Y]:=⟨by decide,by decide,fun p hp=>by
 simp at hp;rcases hp with rfl|rfl
 ·exact⟨zZT,by decide⟩
 ·exact⟨tyC (zIK 0) zZT,by decide⟩⟩
theorem z6E:PatsOk 0 [pI 0,pI 1]:=⟨by decide,by decide,fun p hp=>by
 simp at hp;rcases hp with rfl|rfl
 ·exact⟨.int _ rfl rfl (by decide),by decide⟩
 ·exact⟨.int _ rfl rfl (by decide),by decide⟩⟩
theorem z6J:zKE [pN,pWW]=none:=by kernel_rfl
theorem z6G:zKE [pN,z5Y]=some [zI8 sC [wJ,zI8 sC [wJ,wJ]]]:=by kernel_rfl
theorem z5X:zKE [pI 0,pI 1]=some [zK2 2]:=by kernel_rfl
theorem zXI:zB Tryz.prog zES [] (.sb true):=by
 have hA:=zE0 z5K;have hB:=zE0 z6D;have hC:=zE0 z6E;rw[z6J] at hA;rw[z6G] at hB;rw[z5X] at hC;have ht:=zHI 0 (by decide);refine zA ttok mixed Tryz.func9 rfl (by rfl) (Nat.le_of_ble_eq_true rfl) (by kernel_rfl) ?_;refine .inl ⟨_,zKT,.inl ⟨_,zZ4,?_⟩⟩;refine .inl ⟨_,ht,?_⟩;refine .inl ⟨_,ht,?_⟩;refine⟨by kernel_rfl,?_⟩;refine .inl ⟨_,hA,?_⟩;refine .inl ⟨_,hB,?_⟩;refine .inl ⟨_,hC,?_⟩;refine⟨fun hbs=>?_,fun hbs=>?_⟩<;>first|(exfalso;revert hbs;decide)|skip
 refine⟨fun hbs=>?_,fun hbs=>?_⟩<;>first|(exfalso;revert hbs;decide)|skip
 refine⟨fun hbs=>?_,fun hbs=>?_⟩<;>first|(exfalso;revert hbs;decide)|skip
 refine⟨fun hbs=>?_,fun hbs=>?_⟩<;>first|(exfalso;revert hbs;decide)|skip
 refine⟨ePt (zI8 sC [wJ,wJ]),by omega,rfl,rfl,?_⟩;refine⟨fun hbs=>?_,fun hbs=>?_⟩<;>first|(exfalso;revert hbs;decide)|skip
 refine⟨fun hbs=>?_,fun hbs=>?_⟩<;>first|(exfalso;revert hbs;decide)|skip
 refine⟨fun hbs=>?_,fun hbs=>?_⟩<;>first|(exfalso;revert hbs;decide)|skip
 exact rfl
end Go.Proofs.YtebmimnglcdogaaGreatDoor
