/- What is given, in the code: names, types' variables; Concat. No condition but on lengths. -/
import Derived.Test.YtgonkhaebmfgiaaGreatDoorN
set_option linter.unusedSimpArgs false
set_option linter.unusedVariables false
namespace Go.Proofs.YtgonkhaebmfgiaaGreatDoor
open Go Fp
set_option maxRecDepth 10000
set_option maxHeartbeats 8000000
set_option linter.unusedVariables false
theorem z90 {α:Type} {f:α->AV} {l:List α} {k:Nat} (h:k<l.length):(l.map f)[k]? = some (f l[k]):=by simp[h]
def zZT (esz:Nat) (r:AV) (o:Nat) (h:List (Nat×HO)):Prop :=
 (r = .sl []/\o=esz+1/\h=[])∨(o=0/\∃b cap zs,r = .lit (.slice (some ⟨b,0,none⟩) 0 cap)/\h=[(b,HO.cells zs)]/\cap*esz<=zs.length)
theorem zLL {α:Type} {ls:List (List α)} {k:Nat} (h:k<ls.length):(ls.take (k+1)).flatten=(ls.take k).flatten++ls[k]:=by
 rw[List.take_succ_eq_append_getElem h,List.flatten_append];simp
theorem zKV {α:Type}:∀(ls:List (List α)) (k:Nat),(ls.take k).flatten.length<=ls.flatten.length
 | [],k=>by simp
 | l::ls,0=>by simp
 | l::ls,k+1=>by have:=zKV ls k;simp only[List.take_succ_cons,List.flatten_cons,List.length_append];omega
theorem zWG {n:Nat} {ls:List (List AV)} (hu:∀l∈ls,Uni n l) (k:Nat):Uni n (ls.take k).flatten:=fun a ha=>by
 obtain⟨l,hl,h⟩:=List.mem_flatten.1 ha;exact hu l (List.mem_of_mem_take hl) a h
theorem zTT (n:Nat) (hn:n<=100000):CallsG Tryz.prog (fnv 153) [] [.nil,.lit (.int .i64 (n:Nat))] [] fun r o h=>r = .sl []/\o=2/\h=[]:=by
 have w0:IntKind.i64.wrap ((n:Int)-IntKind.i64.wrap (0-(([]:List AV).length:Nat)))=(n:Int):=by
  rw[show IntKind.i64.wrap (0-(([]:List AV).length:Nat))=0 from rfl,Int.sub_zero];exact yY (by omega)
 refine CallsG.opened (esz:=1) (zLZ (os:=[2]) ttok mixed Tryz.func153 rfl (by rfl) (fun i sz h=>?_) (Nat.le_of_ble_eq_true rfl) (by kernel_rfl) (post:=zZT 1) ?_) (fun r o h hp=>hp)
 ·match i with
  | 0=>rfl
  | i+1=>simp at h
 refine⟨fun h=>?_,fun _=>?_⟩
 ·have h:=of_decide_eq_true h;omega
 refine⟨fun h=>?_,fun h=>?_⟩
 ·have h:=of_decide_eq_true h;rw[w0] at h;refine .inl ⟨rfl,rfl,?_⟩;refine⟨n,w0,by omega,by omega,fun b cap zs h1 h2=>?_⟩;refine⟨by decide,by decide,by exact_mod_cast Nat.zero_le _,?_⟩;refine .inr ⟨rfl,b,cap,zs,?_,rfl,by omega⟩;have e:∀A B:Option Addr,A=some ⟨b,0,none⟩->B=some ⟨b,0,none⟩->AV.lit (.slice (if cap=0 then A else B) 0 cap) = .lit (.slice (some ⟨b,0,none⟩) 0 cap):=fun A B hA hB=>by rw[hA,hB];split<;>rfl
  exact e _ _ rfl rfl
 ·exact .inl ⟨rfl,rfl,rfl⟩
theorem zOR (ls:List (List AV)) (hn:ls.length<10000) (hu:∀l∈ls,Uni 1 l) (ht:ls.flatten.length<=100000):zF Tryz.prog 144 [.sl (ls.map AV.sl)] (.sl ls.flatten):=by
 refine zJ ttok mixed Tryz.func144 rfl (by rfl) (Nat.le_of_ble_eq_true rfl) (by kernel_rfl) ?_;have hml:(ls.map AV.sl).length=ls.length:=by simp
 refine⟨{k:Nat // k<=ls.length},fun k=>{vs:=[(0,.v (.sl (ls.map AV.sl))),(3,sv ((ls.take k.1).flatten.length:Nat)),(9,.v (.sl (ls.map AV.sl))),(10,sv (ls.length:Nat)),(11,sv (k.1:Nat))]},
  fun k=>ls.length-k.1,⟨0,Nat.zero_le _⟩,⟨⟨rfl,rfl,rfl,svc (by rw[hml]),rfl,trivial⟩,trivial,rfl⟩,?_⟩
 rintro⟨k,hk⟩;refine⟨fun h=>?_,fun h=>?_⟩
 ·have h:k<ls.length:=by have h:=of_decide_eq_true h;simp only at h;omega
  have hfl:=zLL h;have hle:=zKV ls (k+1);refine⟨.sl ls[k],by omega,z90 (f:=AV.sl) h,rfl,?_⟩;have w1:IntKind.i64.wrap (((ls.take k).flatten.length:Nat)+(ls[k].length:Nat))=((ls.take (k+1)).flatten.length:Nat):=by
   rw[hfl,List.length_append,<-Int.natCast_add];exact yY (by rw[hfl,List.length_append] at hle;omega)
  refine⟨fun h2=>?_,fun _=>?_⟩
  ·have h2:=of_decide_eq_true h2;simp only[w1] at h2;omega
  exact⟨⟨k+1,h⟩,by simp;omega,⟨rfl,svc w1,rfl,rfl,svc (wrap_succ (k:=k) (by omega)),trivial⟩,trivial,rfl⟩
 ·have h:k=ls.length:=by have h:=of_decide_eq_false h;simp only at h;omega
  subst h;have hg:=zTT ls.flatten.length ht;rw[show ls.flatten.length=(ls.take ls.length).flatten.length by rw[List.take_length]] at hg;refine .inr (.inr (.inr (.inr (.inr (.inl ⟨[],[],[],_,rfl,List.nodup_nil,rfl,hg,?_⟩)))));rintro r w hout ⟨rfl,rfl,rfl⟩;refine⟨{k:Nat // k<=ls.length},fun k=>{vs:=[(6,.v (.sl (ls.take k.1).flatten)),(25,.v (.sl (ls.map AV.sl))),(26,sv (ls.length:Nat)),(27,sv (k.1:Nat))],ow:=[(6,0,2)]},
   fun k=>ls.length-k.1,⟨0,Nat.zero_le _⟩,⟨⟨rfl,rfl,svc (by rw[hml]),rfl,trivial⟩,⟨rfl,trivial⟩,rfl⟩,?_⟩
  rintro⟨k,hk⟩;refine⟨fun h=>?_,fun h=>?_⟩
  ·have h:k<ls.length:=by have h:=of_decide_eq_true h;simp only at h;omega
   have hfl:=zLL h;have hle:=zKV ls (k+1);refine⟨.sl ls[k],by omega,z90 (f:=AV.sl) h,rfl,?_⟩;refine⟨by rw[hfl,List.length_append] at hle;simp only;omega,zWG hu k,hu _ (List.getElem_mem h),?_⟩;refine⟨⟨k+1,h⟩,by simp;omega,⟨?_,rfl,rfl,svc (wrap_succ (k:=k) (by omega)),trivial⟩,⟨rfl,trivial⟩,rfl⟩;show _=SV.v (AV.sl (ls.take (k+1)).flatten);rw[hfl];rfl
  ·have h:k=ls.length:=by have h:=of_decide_eq_false h;simp only at h;omega
   subst h;show AV.sl (ls.take ls.length).flatten=_;rw[List.take_length]
def eG (e d:List ByteArray):AV := .agg [.sl (eSs e.reverse),.sl (eSs d.reverse)]
def clo (d:List ByteArray) (t:Tp):Tp:=d.foldl (fun t v => .all v t) t
theorem zEZ (e d:List ByteArray) (t:Tp) (hd:d.length<=1000000):zF Tryz.prog 126 [eG e d,eTy t] (eTy (clo d t)):=by
 refine zJ ttok mixed Tryz.func126 rfl (by rfl) (Nat.le_of_ble_eq_true rfl) (by kernel_rfl) ?_;refine⟨{k:Nat // k<=d.length},fun k=>{vs:=[(2,.box 0 (eG e d)),(3,.box 0 (eTy (clo (d.take k.1) t))),(4,.box 0 (eTy .no)),(8,sv (d.length:Nat)),(9,sv (k.1:Nat))]},fun k=>d.length-k.1,⟨0,Nat.zero_le _⟩,⟨⟨rfl,rfl,rfl,by show sv _=sv _;simp[eSs],rfl,trivial⟩,trivial,rfl⟩,?_⟩;rintro⟨k,hk⟩;refine⟨fun h=>?_,fun h=>?_⟩
 ·have h:k<d.length:=by have h:=of_decide_eq_true h;simp only at h;omega
  have e0:(eSs d.reverse).length=d.length:=by simp[eSs]
  have e1:d.reverse[d.length-1-k]? = some d[k]:=by
   rw[List.getElem?_reverse (by omega),show d.length-1-(d.length-1-k)=k by omega,List.getElem?_eq_getElem h]
  have e2:IntKind.i64.wrap (IntKind.i64.wrap (((eSs d.reverse).length:Int)-1)-(k:Nat))=((d.length-1-k:Nat):Int):=by
   have a1:IntKind.i64.wrap ((d.length:Int)-1)=(d.length:Int)-1:=wrap_in (by unfold InR;omega);rw[e0,a1,wrap_in (by unfold InR;omega)];omega
  refine⟨str d[k],by simp only;rw[e2];omega,?_,rfl,?_⟩
  ·simp only;rw[e2];show (eSs d.reverse)[d.length-1-k]? = _;rw[eSs,List.getElem?_map,e1];rfl
  refine .inl ⟨_,zSZ d[k] (clo (d.take k) t),?_⟩;refine⟨by kernel_rfl,?_⟩;refine⟨⟨k+1,h⟩,by simp;omega,⟨rfl,?_,rfl,rfl,svc (wrap_succ (k:=k) (by omega)),trivial⟩,trivial,rfl⟩;show SV.box 0 (eTy (.all d[k] (clo (d.take k) t)))=SV.box 0 (eTy (clo (d.take (k+1)) t));unfold clo;rw[<-List.take_append_getElem h,List.foldl_append];rfl
 ·have h:k=d.length:=by have h:=of_decide_eq_false h;simp only at h;omega
  subst h;show eTy (clo (List.take d.length d) t)=_;rw[List.take_length]
def plG (e:List ByteArray) (s:ByteArray):Int:=if memb s e then ((e.length-1-ixN e s:Nat):Int) else -1
theorem zM7 (e d:List ByteArray) (s:ByteArray) (he:e.length<=1000000):zF Tryz.prog 127 [eG e d,str s] (.lit (.int .i64 (plG e s))):=by
 refine zJ ttok mixed Tryz.func127 rfl (by rfl) (Nat.le_of_ble_eq_true rfl) (by kernel_rfl) ?_;refine⟨{k:Nat // k<=e.length/\s∉e.take k},fun k=>{vs:=[(1,.v (str s)),(2,.box 0 (eG e d)),(9,sv (e.length:Nat)),(10,sv (k.1:Nat))]},fun k=>e.length-k.1,⟨0,Nat.zero_le _,by simp⟩,⟨⟨rfl,rfl,by show sv _=sv _;simp[eSs],rfl,trivial⟩,trivial,rfl⟩,?_⟩;rintro⟨k,hk,hno⟩;refine⟨fun h=>?_,fun h=>?_⟩
 ·have h:k<e.length:=by have h:=of_decide_eq_true h;simp only at h;omega
  have e0:(eSs e.reverse).length=e.length:=by simp[eSs]
  have e1:e.reverse[e.length-1-k]? = some e[k]:=by
   rw[List.getElem?_reverse (by omega),show e.length-1-(e.length-1-k)=k by omega,List.getElem?_eq_getElem h]
  have e2:IntKind.i64.wrap (IntKind.i64.wrap (((eSs e.reverse).length:Int)-1)-(k:Nat))=((e.length-1-k:Nat):Int):=by
   have a1:IntKind.i64.wrap ((e.length:Int)-1)=(e.length:Int)-1:=wrap_in (by unfold InR;omega);rw[e0,a1,wrap_in (by unfold InR;omega)];omega
  refine⟨str e[k],by simp only;rw[e2];omega,?_,rfl,?_⟩
  ·simp only;rw[e2];show (eSs e.reverse)[e.length-1-k]? = _;rw[eSs,List.getElem?_map,e1];rfl
  refine⟨fun h2=>?_,fun h2=>?_⟩
  ·have h2:e[k]=s:=of_decide_eq_true h2;show AV.lit (.int .i64 (IntKind.i64.wrap (IntKind.i64.wrap (((eSs e.reverse).length:Int)-1)-(k:Nat))))=AV.lit (.int .i64 (plG e s));have hix:ixN e s=k:=by
    have he2:e=e.take k++s::e.drop (k+1):=by
     rw[<-h2,List.getElem_cons_drop,List.take_append_drop]
    have h3:=zSO (R:=e.take k) (E:=e.drop (k+1)) hno;rw[<-he2,List.length_take] at h3;omega
   have hm:memb s e=true:=memb_iff.2 (h2 ▸ List.getElem_mem h);rw[e2];unfold plG;rw[hm,hix];rfl
  ·have h2:¬e[k]=s:=of_decide_eq_false h2;refine⟨⟨k+1,h,?_⟩,by simp;omega,⟨rfl,rfl,rfl,svc (wrap_succ (k:=k) (by omega)),trivial⟩,trivial,rfl⟩;rw[<-List.take_append_getElem h];intro hm;rcases List.mem_append.1 hm with hm|hm
   ·exact hno hm
   ·exact h2 (List.mem_singleton.1 hm).symm
 ·have h:k=e.length:=by have h:=of_decide_eq_false h;simp only at h;omega
  subst h;rw[List.take_length] at hno;have hm:memb s e=false:=by cases hm:memb s e with|false=>rfl|true=>exact absurd (memb_iff.1 hm) hno
  show AV.lit (.int .i64 (-1))=AV.lit (.int .i64 (plG e s));unfold plG;rw[hm];rfl
def eG2 (a b:List ByteArray):AV := .agg [.sl (eSs a),.sl (eSs b)]
theorem z3T (a b vs ns:List ByteArray) (nm:List AV) (hnm:NamesAt nm ns) (hun:Uni 1 nm) (ha:a.length<=10000) (hn:ns.length<=10000) (hb:b.length+vs.length<=10000):zF Tryz.prog 128 [eG2 a b,.sl nm,.sl (eSs vs)] (eG2 (a++ns) (b++vs)):=by
 have hC:zF Tryz.prog 144 [.sl [.sl (eSs b),.sl (eSs vs)]] (.sl (eSs (b++vs))):=by
  have h:=zOR [eSs b,eSs vs] (by simp) (fun l hl=>by simp at hl;rcases hl with rfl|rfl<;>exact xK _) (by simp[eSs];omega);rw[show [eSs b,eSs vs].flatten=eSs (b++vs) by simp[eSs]] at h;exact h
 have hlen:nm.length=ns.length:=hnm.1;refine zAA ttok mixed Tryz.func128 rfl (by rfl) (Nat.le_of_ble_eq_true rfl) (by kernel_rfl) ?_;refine Wsem.seq ttok mixed ?_;refine Wsem.cut {vs:=[(1,.v (.sl nm)),(2,.v (.sl (eSs vs))),(3,.box 0 (eG2 a b)),(6,.box 0 (eG2 [] []))]} ⟨⟨rfl,rfl,rfl,rfl,trivial⟩,trivial,rfl⟩ ?_;refine Wsem.seqS (Wsem.regionTZ zAD ttok mixed [0,1,2,3,4,5,6,7,8,9,10,11] [0,0,2] (by kernel_rfl) ?_);refine⟨_,_,zIL (eSs a) (xK _) (by simp[eSs];omega),?_⟩;refine .inl ⟨_,hC,?_⟩;refine⟨by kernel_rfl,?_⟩;refine Wsem.cut {vs:=[(1,.v (.sl nm)),(3,.box 0 (eG2 a (b++vs))),(6,.box 0 (eG2 [] []))],ow:=[(3,0,2)]} ⟨⟨rfl,rfl,rfl,trivial⟩,⟨rfl,trivial⟩,rfl⟩ ?_;refine Wsem.seq ttok mixed ?_;refine⟨{k:Nat // k<=ns.length},fun k=>{vs:=[(3,.box 0 (eG2 (a++ns.take k.1) (b++vs))),(6,.box 0 (eG2 [] [])),(19,.v (.sl nm)),(20,sv (ns.length:Nat)),(21,sv (k.1:Nat))],ow:=[(3,0,2)]},fun k=>ns.length-k.1,⟨0,Nat.zero_le _⟩,⟨⟨by simp;rfl,rfl,rfl,by rw[<-hlen];rfl,rfl,trivial⟩,⟨rfl,trivial⟩,rfl⟩,?_⟩;rintro⟨k,hk⟩;refine⟨fun h=>?_,fun h=>?_⟩
 ·have h:k<ns.length:=by have h:=of_decide_eq_true h;simp only at h;omega
  obtain⟨tl,hg⟩:=hnm.at h;refine⟨_,by omega,hg,rfl,?_⟩;refine⟨by show (eSs (a++ns.take k)).length+1<=_;simp[eSs];omega,xK _,zBL rfl,?_⟩;refine⟨by kernel_rfl,?_⟩;refine⟨⟨k+1,h⟩,by simp;omega,⟨?_,rfl,rfl,rfl,svc (wrap_succ (k:=k) (by omega)),trivial⟩,⟨rfl,trivial⟩,rfl⟩;show SV.box 0 (.agg [.sl (eSs (a++ns.take k)++[str ns[k]]),.sl (eSs (b++vs))])=SV.box 0 (.agg [.sl (eSs (a++ns.take (k+1))),.sl (eSs (b++vs))]);have he:eSs (a++ns.take (k+1))=eSs (a++ns.take k)++[str ns[k]]:=by
   unfold eSs;rw[List.take_succ_eq_append_getElem h,<-List.append_assoc,List.map_append];rfl
  rw[he]
 ·have h:k=ns.length:=by have h:=of_decide_eq_false h;simp only at h;omega
  subst h;rw[List.take_length];refine Wsem.of ttok mixed ?_;exact rfl
theorem zCU (e d vs ns:List ByteArray) (nm:List AV) (hnm:NamesAt nm ns) (hun:Uni 1 nm) (ha:e.length<=10000) (hn:ns.length<=10000) (hb:d.length+vs.length<=10000):zF Tryz.prog 128 [eG e d,.sl nm,.sl (eSs vs)] (eG (ns.reverse++e) (vs.reverse++d)):=by
 have h:=z3T e.reverse d.reverse vs ns nm hnm hun (by simpa using ha) hn (by simpa using hb);have e1:eG (ns.reverse++e) (vs.reverse++d)=eG2 (e.reverse++ns) (d.reverse++vs):=by
  unfold eG eG2;simp
 rw[e1];exact h
noncomputable instance decDb:DecidableEq Db:=fun a b=>Classical.propDecidable _
noncomputable instance decDC:DecidableEq DC:=fun a b=>Classical.propDecidable _
def zY7:Nat->Db->Db
 | 0,x=>x
 | n+1,x=>zY7 n (.all x)
theorem zR0:∀(n:Nat) (x y:Db),zY7 n x=zY7 n y->x=y
 | 0,_,_,h=>h
 | n+1,x,y,h=>by have:=zR0 n _ _ h;injection this
theorem zTX:∀(d e:List ByteArray) (t:Tp),db (clo d t) e=zY7 d.length (db t (d++e))
 | [],e,t=>rfl
 | v::d,e,t=>by
  show db (clo d (.all v t)) e=zY7 d.length (.all (db t (v::d++e)));rw[zTX d e (.all v t)];rfl
theorem zS0:∀(d:List ByteArray) (t:Tp),(clo d t).sz=t.sz+d.length
 | [],t=>rfl
 | v::d,t=>by
  show (clo d (.all v t)).sz=_;rw[zS0 d (.all v t)];simp only[Tp.sz,List.length_cons];omega
theorem zQI {d d':List ByteArray} (hl:d.length=d'.length) (s t:Tp):smb (clo d s) (clo d' t) [] []=decide (db s d=db t d'):=by
 rw[Bool.eq_iff_iff,zYD _ _ [] [] rfl,decide_eq_true_iff];simp only[List.reverse_nil];rw[zTX,zTX,List.append_nil,List.append_nil,hl];exact⟨zR0 _ _ _,fun h=>by rw[h]⟩
theorem zQ6 {e d e' d':List ByteArray} (hl:d.length=d'.length) (hd:d.length<=10000) {s t:Tp} (hs:s.sz<900000):zF Tryz.prog 125 [eTy s,eTy t,.ptr (eG e d).cells,.ptr (eG e' d').cells] (.sb (decide (db s d=db t d'))):=by
 have hS:=zLC (clo d s) (clo d' t) (by rw[zS0];omega);rw[zQI hl] at hS;refine zJ ttok mixed Tryz.func125 rfl (by rfl) (Nat.le_of_ble_eq_true rfl) (by kernel_rfl) ?_;refine .inl ⟨_,zEZ e d s (by omega),?_⟩;refine .inl ⟨_,zEZ e' d' t (by omega),?_⟩;refine .inl ⟨_,hS,?_⟩;refine⟨by kernel_rfl,?_⟩;exact rfl
theorem zXZ {e d e' d':List ByteArray} {b b':Nat} (hl:d.length=d'.length) (hd:d.length<=10000) {s t:Tp} (hs:s.sz<900000):CallsG Tryz.prog (fnv 125) [(b,HO.cells (eG e d).cells),(b',HO.cells (eG e' d').cells)] [eTy s,eTy t,pt b 0,pt b' 0] [] fun r o h=>r = .sb (decide (db s d=db t d'))/\o=0/\h=[(b,HO.cells (eG e d).cells),(b',HO.cells (eG e' d').cells)]:=by
 have hS:=zLC (clo d s) (clo d' t) (by rw[zS0];omega);rw[zQI hl] at hS;refine zL (first:=[]) (cap:=[]) ttok mixed Tryz.func125 rfl (by rfl) rfl (Nat.le_of_ble_eq_true rfl) (by kernel_rfl) ?_;refine Wsem.seq ttok mixed ?_;refine Wsem.seq ttok mixed ?_;refine⟨0,_,rfl,Nat.le_refl 2,?_⟩;refine .inr (.inl ⟨_,zEZ e d s (by omega),?_⟩);refine⟨1,_,rfl,Nat.le_refl 2,?_⟩;refine .inr (.inl ⟨_,zEZ e' d' t (by omega),?_⟩);refine .inl ⟨_,hS,?_⟩;refine⟨by kernel_rfl,?_⟩;refine Wsem.of ttok mixed ?_;exact⟨rfl,rfl,rfl⟩
abbrev HdD:=(Int×Int×ByteArray)×Nat×DC
def zMT (K:List DC) (B:List (Db×DC)) (A:List HdD):DC:=K.foldr .kid (B.foldr (fun b r => .bind b.1 b.2 r) (A.foldr (fun a r => .alt a.1.1 a.1.2.1 a.1.2.2 a.2.1 a.2.2 r) .nil))
theorem zZB:∀{K K':List DC} {B B':List (Db×DC)} {A A':List HdD},zMT K B A=zMT K' B' A'->K=K'/\B=B'/\A=A':=by
 intro K;induction K with
 | cons k K ih =>
  intro K' B B' A A' h;cases K' with
  | cons k' K' =>
   have h:DC.kid k (zMT K B A)=DC.kid k' (zMT K' B' A'):=h;injection h with h1 h2
   obtain⟨e1,e2,e3⟩:=ih h2;exact⟨by rw[h1,e1],e2,e3⟩
  | nil =>
   exfalso;cases B' with
   | cons b' B'=>exact DC.noConfusion h
   | nil=>cases A' with
    | cons a' A'=>exact DC.noConfusion h
    | nil=>exact DC.noConfusion h
 | nil =>
  intro K' B;induction B with
  | cons b B ih =>
   intro B' A A' h;cases K' with
   | cons k' K'=>exact DC.noConfusion h
   | nil =>
    cases B' with
    | cons b' B' =>
     have h:DC.bind b.1 b.2 (zMT [] B A)=DC.bind b'.1 b'.2 (zMT [] B' A'):=h;injection h with h1 h2 h3
     obtain⟨_,e2,e3⟩:=ih h3;exact⟨rfl,by rw[Prod.ext h1 h2,e2],e3⟩
    | nil =>
     exfalso;cases A' with
     | cons a' A'=>exact DC.noConfusion h
     | nil=>exact DC.noConfusion h
  | nil =>
   intro B' A;induction A with
   | cons a A ih =>
    intro A' h;cases K' with
    | cons k' K'=>exact DC.noConfusion h
    | nil =>
     cases B' with
     | cons b' B'=>exact DC.noConfusion h
     | nil =>
      cases A' with
      | cons a' A' =>
       have h:DC.alt a.1.1 a.1.2.1 a.1.2.2 a.2.1 a.2.2 (zMT [] [] A)=DC.alt a'.1.1 a'.1.2.1 a'.1.2.2 a'.2.1 a'.2.2 (zMT [] [] A'):=h;injection h with h1 h2 h3 h4 h5 h6
       obtain⟨_,_,e3⟩:=ih h6;refine⟨rfl,rfl,?_⟩;obtain⟨⟨x1,x2,x3⟩,x4,x5⟩:=a;obtain⟨⟨y1,y2,y3⟩,y4,y5⟩:=a';simp only at h1 h2 h3 h4 h5;rw[h1,h2,h3,h4,h5,e3]
      | nil=>exact DC.noConfusion h
   | nil =>
    intro A' h;cases K' with
    | cons k' K'=>exact DC.noConfusion h
    | nil =>
     cases B' with
     | cons b' B'=>exact DC.noConfusion h
     | nil =>
      cases A' with
      | cons a' A'=>exact DC.noConfusion h
      | nil=>exact⟨rfl,rfl,rfl⟩
def LK (g:Cr) (e d:List ByteArray):List DC:=g.kids.map fun p=>dbc p e d
def LB (g:Cr) (e d:List ByteArray):List (Db×DC):=g.binds.map fun b=>(db b.2.1 d,dbc b.2.2 e d)
def LA (g:Cr) (e d:List ByteArray):List HdD:=g.alts.map fun a=>(a.1,a.2.1.length,dbc a.2.2 (a.2.1.reverse++e) d)
theorem z2M (g:Cr) (h:g.isN=false) (ho:g.Ok) (e d:List ByteArray):dbc g e d=zMT (LK g e d) (LB g e d) (LA g e d):=by
 induction g with
 | nil=>rfl
 | node=>cases h
 | kid p r _ ih=>exact congrArg (DC.kid (dbc p e d)) (ih ho.2.1 ho.2.2.2)
 | bind x t p r _ ih =>
  have h2:=ih ho.2.1 ho.2.2.2.2;have hk:LK (.bind x t p r) e d=[]:=by show r.kids.map _=[];rw[ho.2.2.1];rfl
  have hk2:LK r e d=[]:=by unfold LK;rw[ho.2.2.1];rfl
  rw[hk];rw[hk2] at h2;exact congrArg (DC.bind (db t d) (dbc p e d)) h2
 | alt f n s vs p r _ ih =>
  have h2:=ih ho.2.1 ho.2.2.2.2.2.2;have hk:LK (.alt f n s vs p r) e d=[]:=by show r.kids.map _=[];rw[ho.2.2.1];rfl
  have hk2:LK r e d=[]:=by unfold LK;rw[ho.2.2.1];rfl
  have hb:LB (.alt f n s vs p r) e d=[]:=by show r.binds.map _=[];rw[ho.2.2.2.1];rfl
  have hb2:LB r e d=[]:=by unfold LB;rw[ho.2.2.2.1];rfl
  rw[hk,hb];rw[hk2,hb2] at h2;exact congrArg (DC.alt f n s vs.length (dbc p (vs.reverse++e) d)) h2
def dIn (c:Cr) (d:List ByteArray):List ByteArray:=if c.f=7 then c.s::d else d
def eIn (c:Cr) (e:List ByteArray):List ByteArray:=c.names0.reverse++e
theorem zCK {c:Cr} (hn:c.isN=true) (ho:c.Ok) (h1:c.f≠1) (e d:List ByteArray):dbc c e d = .node c.f c.n (if c.f=5∨c.f=7 then .empty else c.s) (db c.t (dIn c d)) (zMT (LK c (eIn c e) (dIn c d)) (LB c (eIn c e) (dIn c d)) (LA c (eIn c e) (dIn c d))):=by
 cases c with
 | node f n s t g =>
  have hl:=zY ho;have h:=z2M g hl.1 hl.2 (eIn (.node f n s t g) e) (dIn (.node f n s t g) d);show dbc (.node f n s t g) e d=_;rw[dbc,if_neg (show ¬f=1 from h1)];exact congrArg (DC.node f n (if f=5∨f=7 then .empty else s) (db t (if f=7 then s::d else d))) h
 | _=>cases hn
def partAt (c:Cr) (e D:List ByteArray) (i j:Nat):Option DC:=((gD c)[i]?).bind fun g=>(g.2.2[j]?).map fun p=>dbc p (g.1.reverse++e) D
theorem zBW (c:Cr) (e D:List ByteArray) (j:Nat):partAt c e D 0 j=(LK c (eIn c e) D++(LB c (eIn c e) D).map (·.2))[j]?:=by
 show (c.parts0[j]?).map (fun p=>dbc p (eIn c e) D)=_;rw[<-List.getElem?_map]
 congr 1
 unfold Cr.parts0 LK LB;rw[List.map_append,List.map_map,List.map_map]
 rfl
theorem z2U {c:Cr} (hn:c.isN=true) (ho:c.Ok) (h:c.alts≠[]) (e:List ByteArray):eIn c e=e:=by
 cases c with
 | node f n s t g=>unfold eIn;rw[zA6 ho h];rfl
 | _=>cases hn
theorem zBX {c:Cr} (hn:c.isN=true) (ho:c.Ok) (e D:List ByteArray) (i j:Nat):partAt c e D (i+1) j=if j=0 then ((LA c (eIn c e) D)[i]?).map (·.2.2) else none:=by
 show ((c.alts.map fun a=>(a.2.1,a.2.1.map nmV,[a.2.2]))[i]?).bind _=_;unfold LA;rw[List.getElem?_map,List.getElem?_map];cases hx:c.alts[i]? with
 | none=>simp
 | some x =>
  have hne:c.alts≠[]:=fun h0=>by rw[h0] at hx;cases hx
  rw[z2U hn ho hne];cases j with
  | zero=>rfl
  | succ j=>rfl
theorem zPC {c:Cr} (hn:c.isN=true) (ho:c.Ok) (h1:c.f=1) (e d:List ByteArray):dbc c e d=if memb c.s e then .bv (ixN e c.s) else .fr c.s:=by
 cases c with
 | node f n s t g =>
  have h1:f=1:=h1;subst h1;rw[dbc,if_pos rfl];rfl
 | _=>cases hn
theorem zR9 {c:Cr} (hn:c.isN=true) (ho:c.Ok) (h1:c.f=1) (e d:List ByteArray):(∃i,dbc c e d = .bv i)∨∃s,dbc c e d = .fr s:=by
 rw[zPC hn ho h1];cases memb c.s e with
 | true=>exact .inl ⟨_,rfl⟩
 | false=>exact .inr ⟨_,rfl⟩
theorem zVO {a b:Cr} (ha:a.isN=true) (ha2:a.Ok) (hb:b.isN=true) (hb2:b.Ok) {e d e' d':List ByteArray} (h:dbc a e d=dbc b e' d'):a.f=1↔b.f=1:=by
 by_cases h1:a.f=1
 ·by_cases h2:b.f=1
  ·exact⟨fun _=>h2,fun _=>h1⟩
  ·rw[zCK hb hb2 h2] at h;rcases zR9 ha ha2 h1 e d with⟨_,h3⟩|⟨_,h3⟩<;>(rw[h3] at h;cases h)
 ·by_cases h2:b.f=1
  ·rw[zCK ha ha2 h1] at h;rcases zR9 hb hb2 h2 e' d' with⟨_,h3⟩|⟨_,h3⟩<;>(rw[h3] at h;cases h)
  ·exact⟨fun h=>absurd h h1,fun h=>absurd h h2⟩
structure Fwd (a b:Cr) (e d e' d':List ByteArray):Prop where
 f:a.f=b.f
 n:a.n=b.n
 s:¬a.f=5->¬a.f=7->a.s=b.s
 t:db a.t (dIn a d)=db b.t (dIn b d')
 K:LK a (eIn a e) (dIn a d)=LK b (eIn b e') (dIn b d')
 B:LB a (eIn a e) (dIn a d)=LB b (eIn b e') (dIn b d')
 A:LA a (eIn a e) (dIn a d)=LA b (eIn b e') (dIn b d')
theorem zQT {a b:Cr} (ha:a.isN=true) (ha2:a.Ok) (hb:b.isN=true) (hb2:b.Ok) (h1:a.f≠1) {e d e' d':List ByteArray} (h:dbc a e d=dbc b e' d'):Fwd a b e d e' d':=by
 have h2:b.f≠1:=fun h2=>h1 ((zVO ha ha2 hb hb2 h).2 h2);rw[zCK ha ha2 h1,zCK hb hb2 h2] at h;injection h with q1 q2 q3 q4 q5
 obtain⟨k1,k2,k3⟩:=zZB q5;refine⟨q1,q2,fun h5 h7=>?_,q4,k1,k2,k3⟩;rw[if_neg (by rintro (h|h);exact h5 h;exact h7 h),if_neg (by rintro (h|h);exact h5 (q1.trans h);exact h7 (q1.trans h))] at q3;exact q3
theorem Fwd.kl {a b:Cr} {e d e' d':List ByteArray} (h:Fwd a b e d e' d'):a.kids.length=b.kids.length/\a.binds.length=b.binds.length/\a.alts.length=b.alts.length:=by
 have h1:=congrArg List.length h.K;have h2:=congrArg List.length h.B;have h3:=congrArg List.length h.A;simp only[LK,LB,LA,List.length_map] at h1 h2 h3;exact⟨h1,h2,h3⟩
theorem Fwd.bt {a b:Cr} {e d e' d':List ByteArray} (h:Fwd a b e d e' d') {i:Nat} (hi:i<a.binds.length) (hi':i<b.binds.length):db a.binds[i].2.1 (dIn a d)=db b.binds[i].2.1 (dIn b d'):=by
 have h2:=congrArg (fun l=>l[i]?) h.B;simp only[LB,List.getElem?_map,List.getElem?_eq_getElem hi,List.getElem?_eq_getElem hi',Option.map_some,Option.some.injEq,Prod.mk.injEq] at h2;exact h2.1
theorem Fwd.ah {a b:Cr} {e d e' d':List ByteArray} (h:Fwd a b e d e' d') {i:Nat} (hi:i<a.alts.length) (hi':i<b.alts.length):a.alts[i].1=b.alts[i].1/\a.alts[i].2.1.length=b.alts[i].2.1.length:=by
 have h2:=congrArg (fun l=>l[i]?) h.A;simp only[LA,List.getElem?_map,List.getElem?_eq_getElem hi,List.getElem?_eq_getElem hi',Option.map_some,Option.some.injEq,Prod.mk.injEq] at h2;exact⟨h2.1,h2.2.1⟩
theorem Fwd.part {a b:Cr} (ha:a.isN=true) (ha2:a.Ok) (hb:b.isN=true) (hb2:b.Ok) {e d e' d':List ByteArray} (h:Fwd a b e d e' d') (i j:Nat):partAt a e (dIn a d) i j=partAt b e' (dIn b d') i j:=by
 cases i with
 | zero=>rw[zBW,zBW,h.K,h.B]
 | succ i=>rw[zBX ha ha2,zBX hb hb2,h.A]
theorem zY5 {a b:Cr} (ha:a.isN=true) (ha2:a.Ok) (hb:b.isN=true) (hb2:b.Ok) (h1:a.f≠1) {e d e' d':List ByteArray} (hf:a.f=b.f) (hn:a.n=b.n) (hs:¬a.f=5->¬a.f=7->a.s=b.s) (ht:db a.t (dIn a d)=db b.t (dIn b d'))
  (hk:a.kids.length=b.kids.length) (hbl:a.binds.length=b.binds.length) (hal:a.alts.length=b.alts.length)
  (hbt:∀i (hi:i<a.binds.length) (hi':i<b.binds.length),db a.binds[i].2.1 (dIn a d)=db b.binds[i].2.1 (dIn b d'))
  (hah:∀i (hi:i<a.alts.length) (hi':i<b.alts.length),a.alts[i].1=b.alts[i].1/\a.alts[i].2.1.length=b.alts[i].2.1.length)
  (hp:∀i j,partAt a e (dIn a d) i j=partAt b e' (dIn b d') i j):dbc a e d=dbc b e' d':=by
 rw[zCK ha ha2 h1,zCK hb hb2 (by rw[<-hf];exact h1)];have h0:LK a (eIn a e) (dIn a d)++(LB a (eIn a e) (dIn a d)).map (·.2)=LK b (eIn b e') (dIn b d')++(LB b (eIn b e') (dIn b d')).map (·.2):=by
  refine List.ext_getElem? fun j=>?_;rw[<-zBW,<-zBW];exact hp 0 j
 obtain⟨k1,k2⟩:=List.append_inj h0 (by simp only[LK,List.length_map];exact hk);have k3:LB a (eIn a e) (dIn a d)=LB b (eIn b e') (dIn b d'):=by
  refine List.ext_getElem (by simp only[LB,List.length_map];exact hbl) fun i q1 q2=>?_;have q1':i<a.binds.length:=by simpa[LB] using q1
  have q2':i<b.binds.length:=by simpa[LB] using q2
  have h2:=congrArg (fun l=>l[i]?) k2;simp only[LB,List.map_map,List.getElem?_map,List.getElem?_eq_getElem q1',List.getElem?_eq_getElem q2',Option.map_some,Option.some.injEq,Function.comp] at h2;simp only[LB,List.getElem_map];rw[hbt i q1' q2',h2]
 have k4:LA a (eIn a e) (dIn a d)=LA b (eIn b e') (dIn b d'):=by
  refine List.ext_getElem (by simp only[LA,List.length_map];exact hal) fun i q1 q2=>?_;have q1':i<a.alts.length:=by simpa[LA] using q1
  have q2':i<b.alts.length:=by simpa[LA] using q2
  have h2:=hp (i+1) 0;rw[zBX ha ha2,zBX hb hb2,if_pos rfl,if_pos rfl] at h2;simp only[LA,List.getElem?_map,List.getElem?_eq_getElem q1',List.getElem?_eq_getElem q2',Option.map_some,Option.some.injEq] at h2;obtain⟨r1,r2⟩:=hah i q1' q2';simp only[LA,List.getElem_map];rw[r1,r2,h2]
 rw[hf,hn,ht,k1,k3,k4];by_cases h57:b.f=5∨b.f=7
 ·rw[if_pos h57,if_pos h57]
 ·rw[if_neg h57,if_neg h57,hs (fun h=>h57 (.inl (hf.symm.trans h))) (fun h=>h57 (.inr (hf.symm.trans h)))]
theorem zZQ {e e':List ByteArray} (hl:e.length=e'.length) (s s':ByteArray):decide ((if memb s e then DC.bv (ixN e s) else .fr s)=(if memb s' e' then DC.bv (ixN e' s') else .fr s'))=(decide (plG e s=plG e' s') && (decide (0<=plG e s) || decide (s=s'))):=by
 unfold plG;cases h:memb s e with
 | true =>
  have h1:=zPT (memb_iff.1 h);cases h':memb s' e' with
  | true =>
   have h2:=zPT (memb_iff.1 h');simp only[if_true];rw[Bool.eq_iff_iff];simp only[decide_eq_true_iff,Bool.and_eq_true,Bool.or_eq_true];constructor
   ·intro h;injection h with h;exact⟨by omega,.inl (by omega)⟩
   ·rintro⟨h,_⟩;exact congrArg DC.bv (by omega)
  | false =>
   simp only[if_true,if_false,Bool.false_eq_true];rw[Bool.eq_iff_iff];simp only[decide_eq_true_iff,Bool.and_eq_true,Bool.or_eq_true];exact⟨fun h=>(by cases h),fun h=>by have:=h.1;omega⟩
 | false =>
  cases h':memb s' e' with
  | true =>
   simp only[if_true,if_false,Bool.false_eq_true];rw[Bool.eq_iff_iff];simp only[decide_eq_true_iff,Bool.and_eq_true,Bool.or_eq_true];exact⟨fun h=>(by cases h),fun h=>by have:=h.1;omega⟩
  | false =>
   simp only[if_false,Bool.false_eq_true];rw[Bool.eq_iff_iff];simp only[decide_eq_true_iff,Bool.and_eq_true,Bool.or_eq_true];constructor
   ·intro h;injection h with h;exact⟨trivial,.inr h⟩
   ·rintro⟨_,h|h⟩
    ·omega
    ·rw[h]
end Go.Proofs.YtgonkhaebmfgiaaGreatDoor
