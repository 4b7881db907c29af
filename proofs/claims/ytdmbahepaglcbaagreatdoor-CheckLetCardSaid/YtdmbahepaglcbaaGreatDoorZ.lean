/- CoreMakes: what the law asks is so. No condition but that what is given is Go's. -/
import Derived.Test.YtdmbahepaglcbaaGreatDoorY
import Derived.Test.YtdmbahepaglcbaaGreatDoorX
import Derived.Test.YtdmbahepaglcbaaGreatDoorW
set_option linter.unusedSimpArgs false
set_option linter.unusedVariables false
namespace Go.Proofs.YtdmbahepaglcbaaGreatDoor
open Go Fp
set_option maxRecDepth 10000
set_option maxHeartbeats 16000000
set_option linter.unusedVariables false
theorem zWD (l m:List ByteArray) (hl:l.length<1000000000) (hm:m.length<1000000000):zC Tryz.prog zBY [.sl (eSs l),.sl (eSs m)] (.sb (decide (l=m))):=by
 obtain⟨r,hr⟩:∃r,r=decide (l=m):=⟨_,rfl⟩
 rw[<-hr];have hrF:¬l=m->r=false:=fun h=>by rw[hr,decide_eq_false h]
 have el:(eSs l).length=l.length:=by simp[eSs]
 have em:(eSs m).length=m.length:=by simp[eSs]
 refine zD ttok mixed Tryz.func97 rfl (by rfl) (Nat.le_of_ble_eq_true rfl) (by kernel_rfl) ?_;refine⟨fun h=>?_,fun h=>?_⟩
 ·have hx:=hrF fun h2=>by subst h2;simp at h
  rw[hx];exact rfl
 have hlm:l.length=m.length:=by rw[el,em] at h;simp at h;omega
 clear h;refine⟨{k:Nat // k<=l.length/\l.take k=m.take k},fun k=>{vs:=[(0,.v (.sl (eSs l))),(1,.v (.sl (eSs m))),(5,sv (k.1:Nat))]},fun k=>l.length-k.1,⟨0,Nat.zero_le _,rfl⟩,⟨⟨rfl,rfl,rfl,trivial⟩,trivial,rfl⟩,?_⟩;rintro⟨k,hk,hkm⟩;refine⟨fun h=>?_,fun h=>?_⟩
 ·have h:k<l.length:=by have h:=of_decide_eq_true h;rw[el] at h;simp only at h;omega
  have h':k<m.length:=by omega
  refine⟨str l[k],by omega,(by show (eSs l)[k]? = _;simp[eSs,List.getElem?_eq_getElem h]),rfl,?_⟩;refine⟨str m[k],by omega,(by show (eSs m)[k]? = _;simp[eSs,List.getElem?_eq_getElem h']),rfl,?_⟩;refine⟨by kernel_rfl,?_⟩;refine⟨fun h2=>?_,fun h2=>?_⟩
  ·have hx:=hrF fun h3=>by subst h3;simp at h2
   rw[hx];exact rfl
  ·have h2:l[k]=m[k]:=by simpa using h2
   refine⟨⟨k+1,h,?_⟩,by simp;omega,⟨rfl,rfl,svc (wrap_succ (k:=k) (by omega)),trivial⟩,trivial,rfl⟩;rw[<-List.take_append_getElem h,<-List.take_append_getElem h',hkm,h2]
 ·have h:k=l.length:=by have h:=of_decide_eq_false h;rw[el] at h;simp only at h;omega
  subst h;have:l=m:=by
   rw[List.take_length,hlm,List.take_length] at hkm;exact hkm
  have hx:r=true:=by rw[hr,decide_eq_true this]
  rw[hx];exact rfl
abbrev zUH (c d:Cr) (e:Bool):Fr:={vs:=[(2,.box 0 (eC c)),(3,.box 0 (eC d)),(5,.v (.sb e))]}
abbrev EqW (q:Code) (f:Fr) (r:Bool):Prop:=Wsem Tryz.prog q (mkC f) (fun c2=>zO7 tt Tryz.f55.results.toList (.sb r) (den c2)) (fun _ _=>False) (fun c2=>zO7 tt Tryz.f55.results.toList (.sb r) (den c2))
theorem z4D {r:Bool}:EqW (yL (yL (yL (yL (yL (yL (bodyC Tryz.f55))))))) {vs:=[(5,.v (.sb r))]} r:=by
 refine Wsem.of ttok mixed ?_;exact rfl
theorem zHY {α:Type} {l m:List α} (hl:l.length=m.length) {k:Nat} (hk:k=l.length) (h:l.take k=m.take k):l=m:=by
 rw[hk,List.take_length] at h;rw[hl,List.take_length] at h;exact h
theorem zGN {α:Type} {l m:List α} {k:Nat} (h1:k<l.length) (h2:k<m.length) (h:l.take k=m.take k) (e:l[k]=m[k]):l.take (k+1)=m.take (k+1):=by
 rw[List.take_succ_eq_append_getElem h1,List.take_succ_eq_append_getElem h2,h,e]
theorem z5Q {a a':Alg} (h1:a.1.1=a'.1.1) (h2:a.1.2.1=a'.1.2.1) (h3:a.1.2.2=a'.1.2.2) (h4:a.2.1=a'.2.1) (h5:a.2.2=a'.2.2):a=a':=by
 obtain⟨⟨x1,x2,x3⟩,x4,x5⟩:=a;obtain⟨⟨y1,y2,y3⟩,y4,y5⟩:=a';simp only at h1 h2 h3 h4 h5;subst h1;subst h2;subst h3;subst h4;subst h5;rfl
theorem z5E {a a':Bdg} (h1:a.1=a'.1) (h2:a.2.1=a'.2.1) (h3:a.2.2=a'.2.2):a=a':=by
 obtain⟨x1,x2,x3⟩:=a;obtain⟨y1,y2,y3⟩:=a';simp only at h1 h2 h3;subst h1;subst h2;subst h3;rfl
section
variable {c d:Cr} {r:Bool} (hll:c.kids.length=d.kids.length/\c.binds.length=d.binds.length/\c.alts.length=d.alts.length) (hl:c.kids.length<1000000/\c.binds.length<1000000/\c.alts.length<1000000)
include hll hl
theorem z5J (hv:(∀a∈c.alts,a.2.1.length<1000000)/\∀a∈d.alts,a.2.1.length<1000000) (ih:∀x∈c.alts.map (·.2.2),∀y∈d.alts.map (·.2.2),zC Tryz.prog yF [eC x,eC y] (.sb (decide (x=y)))) {e:Bool} (hF:e=false->r=false) (hN:c.alts≠d.alts->r=false) (hT:e=true->c.alts=d.alts->r=true):EqW (yL (yL (yL (yL (yL (bodyC Tryz.f55)))))) (zUH c d e) r:=by
 have h2:=zOQ c;have h2':=zOQ d;have hl2:(c.e3 2).length=c.alts.length:=by rw[h2];simp[qY]
 refine Wsem.seq ttok mixed ?_;refine⟨{x:Nat×Bool // x.1<=c.alts.length/\(x.2=true->e=true/\c.alts.take x.1=d.alts.take x.1)/\(x.2=false->r=false)},fun x=>{vs:=[(2,.box 0 (eC c)),(3,.box 0 (eC d)),(5,.v (.sb x.1.2)),(8,sv (x.1.1:Nat))]},fun x=>c.alts.length-x.1.1,⟨(0,e),Nat.zero_le _,fun h=>⟨h,rfl⟩,hF⟩,⟨⟨rfl,rfl,rfl,rfl,trivial⟩,trivial,rfl⟩,?_⟩;rintro⟨⟨k,b⟩,hk,hb1,hb2⟩
 dsimp only at hk hb1 hb2
 refine⟨fun h=>?_,fun h=>?_⟩
 ·have h:k<c.alts.length:=by have h:=of_decide_eq_true h;rw[hl2] at h;simp only at h;omega
  have h':k<d.alts.length:=by omega
  refine⟨fun hb=>?_,fun hb=>?_⟩
  ·obtain⟨he,ht⟩:=hb1 hb;have hg:(c.e3 2)[k]? = some (eAl c.alts[k]):=by rw[h2];simp[qY,List.getElem?_eq_getElem h]
   have hg':(d.e3 2)[k]? = some (eAl d.alts[k]):=by rw[h2'];simp[qY,List.getElem?_eq_getElem h']
   have hi:=ih _ (List.mem_map.2 ⟨_,List.getElem_mem h,rfl⟩) _ (List.mem_map.2 ⟨_,List.getElem_mem h',rfl⟩);have hvl:=hv.1 c.alts[k] (List.getElem_mem h);have hvl':=hv.2 d.alts[k] (List.getElem_mem h');have hne:c.alts[k]≠d.alts[k]->r=false:=fun q=>hN fun q2=>q (by simp[q2]);have heq:c.alts[k]=d.alts[k]->c.alts.take (k+1)=d.alts.take (k+1):=zGN h h' ht;generalize c.alts[k]=a at hg hi hvl hne heq;generalize d.alts[k]=a' at hg' hi hvl' hne heq;refine⟨eAl a,by omega,hg,rfl,?_⟩;refine⟨eAl a',by omega,hg',rfl,?_⟩;refine .inl ⟨_,zWD a.2.1 a'.2.1 (by omega) (by omega),?_⟩;refine⟨fun h3=>?_,fun h3=>?_⟩
   ·refine .inl ⟨_,hi,?_⟩;refine⟨fun h4=>?_,fun h4=>?_⟩
    ·refine⟨fun h5=>?_,fun h5=>?_⟩
     ·refine⟨fun h6=>?_,fun h6=>?_⟩
      ·exact⟨⟨(k+1,false),h,fun q=>(by cases q),fun _=>hne fun q=>by subst q;simp at h6⟩,by simp;omega,⟨rfl,rfl,rfl,svc (wrap_succ (k:=k) (by omega)),trivial⟩,trivial,rfl⟩
      ·exact⟨⟨(k+1,decide (a.2.2=a'.2.2)),h,fun q=>⟨he,heq (z5Q (by simpa using h4) (by simpa using h5) (by simpa using h6) (of_decide_eq_true h3) (of_decide_eq_true q))⟩,fun q=>hne fun q2=>of_decide_eq_false q (by rw[q2])⟩,by simp;omega,⟨rfl,rfl,rfl,svc (wrap_succ (k:=k) (by omega)),trivial⟩,trivial,rfl⟩
     ·exact⟨⟨(k+1,false),h,fun q=>(by cases q),fun _=>hne fun q=>by subst q;simp at h5⟩,by simp;omega,⟨rfl,rfl,rfl,svc (wrap_succ (k:=k) (by omega)),trivial⟩,trivial,rfl⟩
    ·exact⟨⟨(k+1,false),h,fun q=>(by cases q),fun _=>hne fun q=>by subst q;simp at h4⟩,by simp;omega,⟨rfl,rfl,rfl,svc (wrap_succ (k:=k) (by omega)),trivial⟩,trivial,rfl⟩
   ·refine⟨fun h4=>?_,fun h4=>?_⟩
    ·refine⟨fun h5=>?_,fun h5=>?_⟩
     ·refine⟨fun h6=>?_,fun h6=>?_⟩
      ·exact⟨⟨(k+1,false),h,fun q=>(by cases q),fun _=>hne fun q=>by subst q;simp at h6⟩,by simp;omega,⟨rfl,rfl,rfl,svc (wrap_succ (k:=k) (by omega)),trivial⟩,trivial,rfl⟩
      ·exact⟨⟨(k+1,decide (a.2.1=a'.2.1)),h,fun q=>absurd (of_decide_eq_true q) (of_decide_eq_false h3),fun _=>hne fun q=>of_decide_eq_false h3 (by rw[q])⟩,by simp;omega,⟨rfl,rfl,rfl,svc (wrap_succ (k:=k) (by omega)),trivial⟩,trivial,rfl⟩
     ·exact⟨⟨(k+1,false),h,fun q=>(by cases q),fun _=>hne fun q=>by subst q;simp at h5⟩,by simp;omega,⟨rfl,rfl,rfl,svc (wrap_succ (k:=k) (by omega)),trivial⟩,trivial,rfl⟩
    ·exact⟨⟨(k+1,false),h,fun q=>(by cases q),fun _=>hne fun q=>by subst q;simp at h4⟩,by simp;omega,⟨rfl,rfl,rfl,svc (wrap_succ (k:=k) (by omega)),trivial⟩,trivial,rfl⟩
  ·have e0:=hb2 hb;subst e0;refine Wsem.cut _ ?_ (z4D (r:=false));have hb:b=false:=hb;subst hb;exact⟨⟨rfl,trivial⟩,trivial,rfl⟩
 ·have hkk:k=c.alts.length:=by have h:=of_decide_eq_false h;rw[hl2] at h;simp only at h;omega
  have e0:b=r:=by
   cases b with
   | false=>exact (hb2 rfl).symm
   | true=>obtain⟨he,ht⟩:=hb1 rfl;exact (hT he (zHY hll.2.2 hkk ht)).symm
  refine Wsem.cut _ ?_ (z4D (r:=r));subst e0;exact⟨⟨rfl,trivial⟩,trivial,rfl⟩
theorem z5H (ih:∀x∈c.binds.map (·.2.2),∀y∈d.binds.map (·.2.2),zC Tryz.prog yF [eC x,eC y] (.sb (decide (x=y)))) {e:Bool} (hF:e=false->r=false) (hN:c.binds≠d.binds->r=false) (next:∀e',(e'=true->e=true/\c.binds=d.binds)->(e'=false->r=false)->EqW (yL (yL (yL (yL (yL (bodyC Tryz.f55)))))) (zUH c d e') r):EqW (yL (yL (yL (yL (bodyC Tryz.f55))))) (zUH c d e) r:=by
 have h2:=zM1 c;have h2':=zM1 d;have hl2:(c.e3 1).length=c.binds.length:=by rw[h2];simp[yR]
 refine Wsem.seq ttok mixed ?_;refine⟨{x:Nat×Bool // x.1<=c.binds.length/\(x.2=true->e=true/\c.binds.take x.1=d.binds.take x.1)/\(x.2=false->r=false)},fun x=>{vs:=[(2,.box 0 (eC c)),(3,.box 0 (eC d)),(5,.v (.sb x.1.2)),(7,sv (x.1.1:Nat))]},fun x=>c.binds.length-x.1.1,⟨(0,e),Nat.zero_le _,fun h=>⟨h,rfl⟩,hF⟩,⟨⟨rfl,rfl,rfl,rfl,trivial⟩,trivial,rfl⟩,?_⟩;rintro⟨⟨k,b⟩,hk,hb1,hb2⟩
 dsimp only at hk hb1 hb2
 refine⟨fun h=>?_,fun h=>?_⟩
 ·have h:k<c.binds.length:=by have h:=of_decide_eq_true h;rw[hl2] at h;simp only at h;omega
  have h':k<d.binds.length:=by omega
  refine⟨fun hb=>?_,fun hb=>?_⟩
  ·obtain⟨he,ht⟩:=hb1 hb;have hg:(c.e3 1)[k]? = some (eBd c.binds[k]):=by rw[h2];simp[yR,List.getElem?_eq_getElem h]
   have hg':(d.e3 1)[k]? = some (eBd d.binds[k]):=by rw[h2'];simp[yR,List.getElem?_eq_getElem h']
   have hne:c.binds[k]≠d.binds[k]->r=false:=fun q=>hN fun q2=>q (by simp[q2]);have heq:c.binds[k]=d.binds[k]->c.binds.take (k+1)=d.binds.take (k+1):=zGN h h' ht;have hi:=ih _ (List.mem_map.2 ⟨_,List.getElem_mem h,rfl⟩) _ (List.mem_map.2 ⟨_,List.getElem_mem h',rfl⟩);generalize c.binds[k]=a at hg hi hne heq;generalize d.binds[k]=a' at hg' hi hne heq;refine⟨eBd a,by omega,hg,rfl,?_⟩;refine⟨eBd a',by omega,hg',rfl,?_⟩;refine .inl ⟨_,zND a.2.1 a'.2.1,?_⟩;refine⟨by kernel_rfl,?_⟩;refine⟨fun h3=>?_,fun h3=>?_⟩
   ·refine⟨eBd a,by omega,hg,rfl,?_⟩;refine⟨eBd a',by omega,hg',rfl,?_⟩;refine .inl ⟨_,hi,?_⟩;refine⟨by kernel_rfl,?_⟩;refine⟨eBd a,by omega,hg,rfl,?_⟩;refine⟨eBd a',by omega,hg',rfl,?_⟩;refine⟨by kernel_rfl,?_⟩;refine⟨fun h4=>?_,fun h4=>?_⟩
    ·exact⟨⟨(k+1,false),h,fun q=>(by cases q),fun _=>hne fun q=>by subst q;simp at h4⟩,by simp;omega,⟨rfl,rfl,rfl,svc (wrap_succ (k:=k) (by omega)),trivial⟩,trivial,rfl⟩
    ·exact⟨⟨(k+1,decide (a.2.2=a'.2.2)),h,fun q=>⟨he,heq (z5E (by simpa using h4) (of_decide_eq_true h3) (of_decide_eq_true q))⟩,fun q=>hne fun q2=>of_decide_eq_false q (by rw[q2])⟩,by simp;omega,⟨rfl,rfl,rfl,svc (wrap_succ (k:=k) (by omega)),trivial⟩,trivial,rfl⟩
   ·refine⟨eBd a,by omega,hg,rfl,?_⟩;refine⟨eBd a',by omega,hg',rfl,?_⟩;refine⟨by kernel_rfl,?_⟩;refine⟨fun h4=>?_,fun h4=>?_⟩
    ·exact⟨⟨(k+1,false),h,fun q=>(by cases q),fun _=>hne fun q=>by subst q;simp at h4⟩,by simp;omega,⟨rfl,rfl,rfl,svc (wrap_succ (k:=k) (by omega)),trivial⟩,trivial,rfl⟩
    ·exact⟨⟨(k+1,decide (a.2.1=a'.2.1)),h,fun q=>absurd (of_decide_eq_true q) (of_decide_eq_false h3),fun _=>hne fun q=>of_decide_eq_false h3 (by rw[q])⟩,by simp;omega,⟨rfl,rfl,rfl,svc (wrap_succ (k:=k) (by omega)),trivial⟩,trivial,rfl⟩
  ·refine Wsem.cut _ ?_ (next b (fun q=>(by have hb:b=false:=hb;rw[hb] at q;cases q)) hb2);exact⟨⟨rfl,rfl,rfl,trivial⟩,trivial,rfl⟩
 ·have hkk:k=c.binds.length:=by have h:=of_decide_eq_false h;rw[hl2] at h;simp only at h;omega
  refine Wsem.cut _ ?_ (next b (fun q=>⟨(hb1 q).1,zHY hll.2.1 hkk (hb1 q).2⟩) hb2);exact⟨⟨rfl,rfl,rfl,trivial⟩,trivial,rfl⟩
theorem z5S (ih:∀x∈c.kids,∀y∈d.kids,zC Tryz.prog yF [eC x,eC y] (.sb (decide (x=y)))) {e:Bool} (hF:e=false->r=false) (hN:c.kids≠d.kids->r=false) (next:∀e',(e'=true->e=true/\c.kids=d.kids)->(e'=false->r=false)->EqW (yL (yL (yL (yL (bodyC Tryz.f55))))) (zUH c d e') r):EqW (yL (yL (yL (bodyC Tryz.f55)))) (zUH c d e) r:=by
 have h2:=zI2 c;have h2':=zI2 d;have hl2:(c.e3 0).length=c.kids.length:=by rw[h2];simp[eCs]
 refine Wsem.seq ttok mixed ?_;refine⟨{x:Nat×Bool // x.1<=c.kids.length/\(x.2=true->e=true/\c.kids.take x.1=d.kids.take x.1)/\(x.2=false->r=false)},fun x=>{vs:=[(2,.box 0 (eC c)),(3,.box 0 (eC d)),(5,.v (.sb x.1.2)),(6,sv (x.1.1:Nat))]},fun x=>c.kids.length-x.1.1,⟨(0,e),Nat.zero_le _,fun h=>⟨h,rfl⟩,hF⟩,⟨⟨rfl,rfl,rfl,rfl,trivial⟩,trivial,rfl⟩,?_⟩;rintro⟨⟨k,b⟩,hk,hb1,hb2⟩
 dsimp only at hk hb1 hb2
 refine⟨fun h=>?_,fun h=>?_⟩
 ·have h:k<c.kids.length:=by have h:=of_decide_eq_true h;rw[hl2] at h;simp only at h;omega
  have h':k<d.kids.length:=by omega
  refine⟨fun hb=>?_,fun hb=>?_⟩
  ·obtain⟨he,ht⟩:=hb1 hb;have hg:(c.e3 0)[k]? = some (eC c.kids[k]):=by rw[h2];simp[eCs,List.getElem?_eq_getElem h]
   have hg':(d.e3 0)[k]? = some (eC d.kids[k]):=by rw[h2'];simp[eCs,List.getElem?_eq_getElem h']
   have hne:c.kids[k]≠d.kids[k]->r=false:=fun q=>hN fun q2=>q (by simp[q2]);have heq:c.kids[k]=d.kids[k]->c.kids.take (k+1)=d.kids.take (k+1):=zGN h h' ht;have hi:=ih _ (List.getElem_mem h) _ (List.getElem_mem h');refine⟨_,by omega,hg,rfl,?_⟩;refine⟨_,by omega,hg',rfl,?_⟩;refine .inl ⟨_,hi,?_⟩;refine⟨by kernel_rfl,?_⟩;exact⟨⟨(k+1,decide (c.kids[k]=d.kids[k])),h,fun q=>⟨he,heq (of_decide_eq_true q)⟩,fun q=>hne (of_decide_eq_false q)⟩,by simp;omega,⟨rfl,rfl,rfl,svc (wrap_succ (k:=k) (by omega)),trivial⟩,trivial,rfl⟩
  ·refine Wsem.cut _ ?_ (next b (fun q=>(by have hb:b=false:=hb;rw[hb] at q;cases q)) hb2);exact⟨⟨rfl,rfl,rfl,trivial⟩,trivial,rfl⟩
 ·have hkk:k=c.kids.length:=by have h:=of_decide_eq_false h;rw[hl2] at h;simp only at h;omega
  refine Wsem.cut _ ?_ (next b (fun q=>⟨(hb1 q).1,zHY hll.1 hkk (hb1 q).2⟩) hb2);exact⟨⟨rfl,rfl,rfl,trivial⟩,trivial,rfl⟩
end
theorem z3N {c d:Cr} (hc:Gd c) (hd:Gd d) (h1:c.f=d.f) (h2:c.n=d.n) (h3:c.s=d.s) (h4:c.t=d.t) (h5:c.kids=d.kids) (h6:c.binds=d.binds) (h7:c.alts=d.alts):c=d:=by
 rw[<-zWP hc.n hc.ok,<-zWP hd.n hd.ok];unfold jP;rw[h1,h2,h3,h4,h5,h6,h7]
theorem zVZ {c d:Cr} (hc:Gd c) (hd:Gd d) (hs:c.sz<900000) (hs2:d.sz<900000)
  (ih:∀x y:Cr,Gd x->Gd y->x.sz<c.sz->y.sz<900000->zC Tryz.prog yF [eC x,eC y] (.sb (decide (x=y)))):zC Tryz.prog yF [eC c,eC d] (.sb (decide (c=d))):=by
 obtain⟨r,hr⟩:∃r,r=decide (c=d):=⟨_,rfl⟩
 rw[<-hr];have hF:c≠d->r=false:=fun h=>by rw[hr,decide_eq_false h]
 have h0:=zI2 c;have h1:=zM1 c;have h2:=zOQ c;have g0:=zI2 d;have g1:=zM1 d;have g2:=zOQ d;have a0:(c.e3 0).length=c.kids.length:=by rw[h0];simp[eCs]
 have a1:(c.e3 1).length=c.binds.length:=by rw[h1];simp[yR]
 have a2:(c.e3 2).length=c.alts.length:=by rw[h2];simp[qY]
 have b0:(d.e3 0).length=d.kids.length:=by rw[g0];simp[eCs]
 have b1:(d.e3 1).length=d.binds.length:=by rw[g1];simp[yR]
 have b2:(d.e3 2).length=d.alts.length:=by rw[g2];simp[qY]
 have hl:=zMA c hc.ok;have part:∀{e:Cr} {p:Pp} {x:Cr},Gd e->zMH (jP e) p=some x->Gd x/\x.sz<e.sz:=fun he hx=>he.part hx;refine zJV ttok mixed Tryz.func55 rfl (by rfl) (Nat.le_of_ble_eq_true rfl) (by kernel_rfl) ?_;refine Wsem.seq ttok mixed ?_;refine Wsem.cut {vs:=[(2,.box 0 (eC c)),(3,.box 0 (eC d))]} ⟨⟨rfl,rfl,trivial⟩,trivial,rfl⟩ ?_;refine Wsem.seq ttok mixed ?_;refine⟨fun h1=>?_,fun h1=>?_⟩
 ·refine⟨fun h2=>?_,fun h2=>?_⟩
  ·refine⟨fun h3=>?_,fun h3=>?_⟩
   ·refine⟨fun h4=>?_,fun h4=>?_⟩
    ·refine⟨fun h5=>?_,fun h5=>?_⟩
     ·refine⟨fun h6=>?_,fun h6=>?_⟩
      ·have e:=hF (fun q=>by subst q;simp at h6);subst e;exact rfl
      ·have e7:c.alts.length=d.alts.length:=by simp at h6;omega
       have hll:c.kids.length=d.kids.length/\c.binds.length=d.binds.length/\c.alts.length=d.alts.length:=⟨by simp at h4;omega,by simp at h5;omega,e7⟩
       have hl3:c.kids.length<1000000/\c.binds.length<1000000/\c.alts.length<1000000:=⟨by omega,by omega,by omega⟩
       have e1:c.f=d.f:=by simpa using h1
       have e2:c.n=d.n:=by simpa using h2
       have e3:c.s=d.s:=by simpa using h3
       refine Wsem.cut {vs:=[(2,.box 0 (eC c)),(3,.box 0 (eC d))]} ⟨⟨rfl,rfl,trivial⟩,trivial,rfl⟩ ?_;refine Wsem.seq ttok mixed ?_;refine .inl ⟨_,zND c.t d.t,?_⟩;refine Wsem.cut (zUH c d (decide (c.t=d.t))) ⟨⟨rfl,rfl,rfl,trivial⟩,trivial,rfl⟩ ?_;refine z5S hll hl3 (fun x hx y hy=>?_) (fun q=>hF fun q2=>of_decide_eq_false q (by rw[q2])) (fun q=>hF fun q2=>q (by rw[q2])) fun e4 k1 k2=>?_
       ·obtain⟨j,hj⟩:=List.getElem?_of_mem hx;obtain⟨j',hj'⟩:=List.getElem?_of_mem hy;have p1:=part (p := .kid j) hc hj;have p2:=part (p := .kid j') hd hj';exact ih x y p1.1 p2.1 p1.2 (by omega)
       refine z5H hll hl3 (fun x hx y hy=>?_) k2 (fun q=>hF fun q2=>q (by rw[q2])) fun e5 k3 k4=>?_
       ·obtain⟨j,hj⟩:=List.getElem?_of_mem hx;obtain⟨j',hj'⟩:=List.getElem?_of_mem hy;have p1:=part (p := .bind j) hc (by rw[<-hj,List.getElem?_map];rfl);have p2:=part (p := .bind j') hd (by rw[<-hj',List.getElem?_map];rfl);exact ih x y p1.1 p2.1 p1.2 (by omega)
       refine z5J hll hl3 ⟨fun a ha=>by have:=(hc.few.alt ha).2;omega,fun a ha=>by have:=(hd.few.alt ha).2;omega⟩ (fun x hx y hy=>?_) k4 (fun q=>hF fun q2=>q (by rw[q2])) fun q e6=>?_
       ·obtain⟨j,hj⟩:=List.getElem?_of_mem hx;obtain⟨j',hj'⟩:=List.getElem?_of_mem hy;have p1:=part (p := .alt j) hc (by rw[<-hj,List.getElem?_map];rfl);have p2:=part (p := .alt j') hd (by rw[<-hj',List.getElem?_map];rfl);exact ih x y p1.1 p2.1 p1.2 (by omega)
       ·obtain⟨q5,eb⟩:=k3 q;obtain⟨q4,ek⟩:=k1 q5;rw[hr];exact decide_eq_true (z3N hc hd e1 e2 e3 (of_decide_eq_true q4) ek eb e6)
     ·have e:=hF (fun q=>by subst q;simp at h5);subst e;exact rfl
    ·have e:=hF (fun q=>by subst q;simp at h4);subst e;exact rfl
   ·have e:=hF (fun q=>by subst q;simp at h3);subst e;exact rfl
  ·have e:=hF (fun q=>by subst q;simp at h2);subst e;exact rfl
 ·have e:=hF (fun q=>by subst q;simp at h1);subst e;exact rfl
theorem z1C (N:Nat):∀c d:Cr,c.sz<=N->N<900000->Gd c->Gd d->d.sz<900000->zC Tryz.prog yF [eC c,eC d] (.sb (decide (c=d))):=by
 induction N with
 | zero=>intro c d hs _ hc;have:=zA7 hc.n;omega
 | succ N ih =>
  intro c d hs hN hc hd hs2;exact zVZ hc hd (by omega) hs2 fun x y hx hy h1 h2=>ih x y (by omega) (by omega) hx hy h2
def zRH (c:Cr) (k:AV):AV := .agg [.lit (.int .i64 c.f),.lit (.int .i64 c.n),.lit (.string c.s),.lit (.int .i64 c.t.form),.lit (.int .i64 c.t.num),.lit (.string c.t.nam),.sl c.t.eArgs,k,.sl (c.e3 1),.sl (c.e3 2)]
abbrev Gr:=Option (Nat×Nat×List AV)
def slG (x:Gr) (k:Nat):Value:=match x with
 | none => .slice none 0 0
 | some (b,cap,_) => .slice (some ⟨b,0,none⟩) k cap
def hpG (x:Gr) (L:List Cr):List (Nat×HO):=match x with
 | none=>[]
 | some (b,_,rest)=>[(b,.cells (flR (eCs L) rest))]
def zQZ (x:Gr) (k:Nat):Prop:=match x with
 | none=>k=0
 | some (_,cap,rest)=>0<k/\k<=cap/\rest.length=(cap-k)*10
theorem zC9 (L:List Cr):(eCs L).length=L.length:=by simp[eCs]
theorem z3C (L:List Cr) (x:Cr) (rest rest':List AV):(flR (eCs L) rest).take (L.length*10)++([eC x].flatMap AV.cells++rest')=flR (eCs (L++[x])) rest':=by
 have h1:((eCs L).flatMap AV.cells).length=L.length*10:=by have:=jX (zBI L) [];unfold flR at this;rw[List.append_nil,zC9] at this;simpa using this
 unfold flR;rw[List.take_append_of_le_length (by omega),List.take_of_length_le (by omega)];simp[eCs]
theorem z4S {c:Cr} {x:Gr} {L:List Cr} (hx:zQZ x L.length):Frz (hpG x L) (zRH c (.lit (slG x L.length))) (zRH c (.sl (eCs L))):=by
 have hs:Frz (hpG x L) (.lit (slG x L.length)) (.sl (eCs L)):=by
  cases x with
  | none =>
   have h0:L=[]:=List.length_eq_zero_iff.1 hx;subst h0;exact .nilL
  | some q =>
   obtain⟨b,cap,rest⟩:=q;obtain⟨h1,h2,h3⟩:=hx;refine .sl b 0 L.length cap 10 (flR (eCs L) rest) (eCs L) (List.mem_singleton.2 rfl) (zC9 L) h2 (zBI L) cellC (by rw[jX (zBI L),zC9,h3];omega) fun i x j c c' hi hj hc=>?_;have hil:=(List.getElem?_eq_some_iff.1 hi).1;have hjl:=(List.getElem?_eq_some_iff.1 hj).1;rw[zBI L x (List.mem_of_getElem? hi)] at hjl;rw[Nat.zero_add,zE0 (zBI L) rest hil j hjl] at hc;rw[List.getElem?_eq_getElem hil] at hi;injection hi with hi;subst hi
   rw[hj] at hc;injection hc with hc;subst hc
   exact .refl _
 refine .agg _ _ rfl (fun a ha=>?_) fun j a a' ha ha'=>?_
 ·simp only[List.mem_cons,List.not_mem_nil,or_false] at ha;rcases ha with rfl|rfl|rfl|rfl|rfl|rfl|rfl|rfl|rfl|rfl<;>rfl
 ·match j,ha,ha' with
  | 0,ha,ha'=>cases ha;cases ha';exact .refl _
  | 1,ha,ha'=>cases ha;cases ha';exact .refl _
  | 2,ha,ha'=>cases ha;cases ha';exact .refl _
  | 3,ha,ha'=>cases ha;cases ha';exact .refl _
  | 4,ha,ha'=>cases ha;cases ha';exact .refl _
  | 5,ha,ha'=>cases ha;cases ha';exact .refl _
  | 6,ha,ha'=>cases ha;cases ha';exact .refl _
  | 7,ha,ha'=>cases ha;cases ha';exact hs
  | 8,ha,ha'=>cases ha;cases ha';exact .refl _
  | 9,ha,ha'=>cases ha;cases ha';exact .refl _
  | j+10,ha,ha'=>simp at ha
abbrev zWH (c:Cr) (M:List Cr) (r:AV) (o:Nat) (h:List (Nat×HO)):Prop:=o=0/\∃x:Gr,zQZ x M.length/\r=zRH c (.lit (slG x M.length))/\h=hpG x M
abbrev UW (q:Code) (f:Fr) (c:Cr) (M:List Cr):Prop:=Wsem Tryz.prog q (mkC f) (fun c2=>xU tt Tryz.f20.results.toList (zWH c M) (den c2)) (fun _ _=>False) (fun c2=>xU tt Tryz.f20.results.toList (zWH c M) (den c2))
abbrev zZO (c b:Cr) (y:ByteArray) (x:Gr) (L:List Cr):Fr:={vs:=[(1,.v (str y)),(3,.box 0 (eC c)),(5,.box 0 (eC b)),(6,.box 0 eZ),(7,.v (.lit (slG x L.length)))],hp:=hpG x L}
theorem zEP {c b:Cr} {y:ByteArray} {x:Gr} {M:List Cr} (hx:zQZ x M.length):UW (yL (yL (yL (yL (yL (bodyC Tryz.f20)))))) (zZO c b y x M) c M:=by
 refine Wsem.of ttok mixed ?_;refine⟨rfl,x,hx,?_,rfl⟩;cases x with
 | none=>exact rfl
 | some q=>obtain⟨b0,cap,rest⟩:=q;exact rfl
def qF (U:Cr->Cr) (c:Cr) (j:Nat):List Cr:=(c.kids.take j).map U++c.kids.drop j
theorem zOJ (U:Cr->Cr) (c:Cr) {j:Nat} (hj:j<=c.kids.length):(qF U c j).length=c.kids.length:=by
 unfold qF;simp;omega
theorem zSO (U:Cr->Cr) (c:Cr) {j:Nat} (h:j<c.kids.length) (hm:j<(eCs (qF U c j)).length):(eCs (qF U c j))[j]=eC c.kids[j]:=by
 have e:(qF U c j)[j]? = some c.kids[j]:=by
  unfold qF;rw[List.getElem?_append_right (by simp;omega),List.getElem?_drop,show j+(j-((c.kids.take j).map U).length)=j by simp;omega];exact List.getElem?_eq_getElem h
 have e2:(eCs (qF U c j))[j]? = some (eC c.kids[j]):=by unfold eCs;rw[List.getElem?_map,e];rfl
 rw[List.getElem?_eq_getElem hm] at e2;exact Option.some.inj e2
theorem zM3 (U:Cr->Cr) (c:Cr) {j:Nat} (h:j<c.kids.length):(eCs (qF U c j)).set j (eC (U c.kids[j]))=eCs (qF U c (j+1)):=by
 have e:(c.kids.drop j).set (j-((c.kids.take j).map U).length) (U c.kids[j])=U c.kids[j]::c.kids.drop (j+1):=by
  rw[List.drop_eq_getElem_cons h];have:j-((c.kids.take j).map U).length=0:=by simp;omega
  rw[this];rfl
 have e1:(qF U c j).set j (U c.kids[j])=qF U c (j+1):=by
  unfold qF;rw[List.set_append_right _ _ (by simp;omega),e,List.take_succ_eq_append_getElem h,List.map_append,List.append_assoc]
  rfl
 unfold eCs;rw[<-List.map_set,e1]
theorem zNY (U:Cr->Cr) (c:Cr):qF U c c.kids.length=c.kids.map U:=by
 unfold qF;simp
theorem zVM {c b:Cr} {y:ByteArray} {x:Gr} (U:Cr->Cr) (hx:zQZ x c.kids.length) (hk:c.kids.length<=1000000) (hf:c.f=4∨c.f=10) (ih:∀p∈c.kids,zC Tryz.prog 20 [eC p,str y,eC b] (eC (U p))):UW (yL (yL (yL (yL (bodyC Tryz.f20))))) (zZO c b y x c.kids) c (c.kids.map U):=by
 refine Wsem.seq ttok mixed ?_;refine⟨fun h2=>?_,fun h2=>?_⟩
 ·have h2:¬c.f=4:=of_decide_eq_false h2;refine⟨fun _=>?_,fun h3=>absurd (of_decide_eq_false h3) (fun h=>hf.elim h2 h)⟩;cases x with
    | none =>
     have h0:c.kids=[]:=List.length_eq_zero_iff.1 hx;refine⟨Unit,fun _=>{vs:=[(1,.v (str y)),(3,.box 0 (eC c)),(5,.box 0 (eC b)),(6,.box 0 eZ),(7,.v (.lit (.slice none 0 0))),(9,sv 0)]},fun _=>0,(),⟨⟨rfl,rfl,rfl,rfl,.inr rfl,rfl,trivial⟩,trivial,rfl⟩,?_⟩;rintro⟨⟩;refine⟨fun h=>?_,fun h=>?_⟩
     ·exact absurd h (by decide)
     ·refine Wsem.cut _ ?_ (zEP (c:=c) (b:=b) (y:=y) (x:=none) (M:=c.kids.map U) (by rw[h0];rfl));exact⟨⟨rfl,rfl,rfl,rfl,.inr rfl,trivial⟩,trivial,rfl⟩
    | some q =>
     obtain⟨b0,cap,rest⟩:=q;refine⟨{j:Nat // j<=c.kids.length},fun j=>{vs:=[(1,.v (str y)),(3,.box 0 (eC c)),(5,.box 0 (eC b)),(6,.box 0 eZ),(7,.v (.lit (.slice (some ⟨b0,0,none⟩) c.kids.length cap))),(9,sv (j.1:Nat))],hp:=[(b0,.cells (flR (eCs (qF U c j.1)) rest))]},fun j=>c.kids.length-j.1,⟨0,Nat.zero_le _⟩,⟨⟨rfl,rfl,rfl,rfl,rfl,rfl,trivial⟩,trivial,rfl⟩,?_⟩;rintro⟨j,hj⟩;refine⟨fun h=>?_,fun h=>?_⟩
     ·have h:j<c.kids.length:=by have h:=of_decide_eq_true h;simp only at h;omega
      have hml:j<(eCs (qF U c j)).length:=by rw[zC9,zOJ U c (by omega)];exact h
      have hget:(eCs (qF U c j))[j]=eC c.kids[j]:=zSO U c h hml;have hcall:zC Tryz.prog 20 [.agg (((flR (eCs (qF U c j)) rest).drop (0+j*10)).take 10),str y,eC b] (eC (U c.kids[j])):=by
       have e:=zBR (zBI _) rest hml 0 10 (by decide);rw[Nat.zero_add,show j*10=j*10+0 by omega,e,hget];exact ih _ (List.getElem_mem h)
      have hfit:0+j*10+10<=(flR (eCs (qF U c j)) rest).length:=by have:=zAM (zBI (qF U c j)) rest hml 0 10 (by decide);omega
      refine⟨by omega,by simp only;omega,?_⟩;refine⟨0,_,rfl,hfit,?_⟩;refine .inr (.inl ⟨_,hcall,?_⟩);refine⟨by omega,by simp only;omega,?_⟩;refine⟨rfl,0,_,rfl,hfit,?_⟩;refine⟨by kernel_rfl,?_⟩;refine⟨⟨j+1,h⟩,by simp;omega,⟨rfl,rfl,rfl,rfl,rfl,svc (wrap_succ (k:=j) (by omega)),trivial⟩,trivial,?_⟩;show [(b0,HO.cells (setAt (flR (eCs (qF U c j)) rest) (0+j*10) (eC (U c.kids[j])).cells))]=[(b0,HO.cells (flR (eCs (qF U c (j+1))) rest))];rw[Nat.zero_add,zFO (zBI _) rest hml _ rfl,zM3 U c h]
     ·have h:j=c.kids.length:=by have h:=of_decide_eq_false h;simp only at h;omega
      subst h;refine Wsem.cut _ ?_ (zEP (c:=c) (b:=b) (y:=y) (x:=some (b0,cap,rest)) (M:=c.kids.map U) (by rw[List.length_map];exact hx));refine⟨⟨rfl,rfl,rfl,rfl,?_,trivial⟩,trivial,?_⟩
      ·rw[List.length_map];rfl
      ·rw[zNY];rfl
 ·cases x with
  | none =>
   have h0:c.kids=[]:=List.length_eq_zero_iff.1 hx;refine⟨Unit,fun _=>{vs:=[(1,.v (str y)),(3,.box 0 (eC c)),(5,.box 0 (eC b)),(6,.box 0 eZ),(7,.v (.lit (.slice none 0 0))),(9,sv 0)]},fun _=>0,(),⟨⟨rfl,rfl,rfl,rfl,.inr rfl,rfl,trivial⟩,trivial,rfl⟩,?_⟩;rintro⟨⟩;refine⟨fun h=>?_,fun h=>?_⟩
   ·exact absurd h (by decide)
   ·refine Wsem.cut _ ?_ (zEP (c:=c) (b:=b) (y:=y) (x:=none) (M:=c.kids.map U) (by rw[h0];rfl));exact⟨⟨rfl,rfl,rfl,rfl,.inr rfl,trivial⟩,trivial,rfl⟩
  | some q =>
   obtain⟨b0,cap,rest⟩:=q;refine⟨{j:Nat // j<=c.kids.length},fun j=>{vs:=[(1,.v (str y)),(3,.box 0 (eC c)),(5,.box 0 (eC b)),(6,.box 0 eZ),(7,.v (.lit (.slice (some ⟨b0,0,none⟩) c.kids.length cap))),(9,sv (j.1:Nat))],hp:=[(b0,.cells (flR (eCs (qF U c j.1)) rest))]},fun j=>c.kids.length-j.1,⟨0,Nat.zero_le _⟩,⟨⟨rfl,rfl,rfl,rfl,rfl,rfl,trivial⟩,trivial,rfl⟩,?_⟩;rintro⟨j,hj⟩;refine⟨fun h=>?_,fun h=>?_⟩
   ·have h:j<c.kids.length:=by have h:=of_decide_eq_true h;simp only at h;omega
    have hml:j<(eCs (qF U c j)).length:=by rw[zC9,zOJ U c (by omega)];exact h
    have hget:(eCs (qF U c j))[j]=eC c.kids[j]:=zSO U c h hml;have hcall:zC Tryz.prog 20 [.agg (((flR (eCs (qF U c j)) rest).drop (0+j*10)).take 10),str y,eC b] (eC (U c.kids[j])):=by
     have e:=zBR (zBI _) rest hml 0 10 (by decide);rw[Nat.zero_add,show j*10=j*10+0 by omega,e,hget];exact ih _ (List.getElem_mem h)
    have hfit:0+j*10+10<=(flR (eCs (qF U c j)) rest).length:=by have:=zAM (zBI (qF U c j)) rest hml 0 10 (by decide);omega
    refine⟨by omega,by simp only;omega,?_⟩;refine⟨0,_,rfl,hfit,?_⟩;refine .inr (.inl ⟨_,hcall,?_⟩);refine⟨by omega,by simp only;omega,?_⟩;refine⟨rfl,0,_,rfl,hfit,?_⟩;refine⟨by kernel_rfl,?_⟩;refine⟨⟨j+1,h⟩,by simp;omega,⟨rfl,rfl,rfl,rfl,rfl,svc (wrap_succ (k:=j) (by omega)),trivial⟩,trivial,?_⟩;show [(b0,HO.cells (setAt (flR (eCs (qF U c j)) rest) (0+j*10) (eC (U c.kids[j])).cells))]=[(b0,HO.cells (flR (eCs (qF U c (j+1))) rest))];rw[Nat.zero_add,zFO (zBI _) rest hml _ rfl,zM3 U c h]
   ·have h:j=c.kids.length:=by have h:=of_decide_eq_false h;simp only at h;omega
    subst h;refine Wsem.cut _ ?_ (zEP (c:=c) (b:=b) (y:=y) (x:=some (b0,cap,rest)) (M:=c.kids.map U) (by rw[List.length_map];exact hx));refine⟨⟨rfl,rfl,rfl,rfl,?_,trivial⟩,trivial,?_⟩
    ·rw[List.length_map];rfl
    ·rw[zNY];rfl
theorem zXD {c b:Cr} {y:ByteArray} {x:Gr} (hx:zQZ x c.kids.length) (hf:¬(c.f=4∨c.f=10)):UW (yL (yL (yL (yL (bodyC Tryz.f20))))) (zZO c b y x c.kids) c c.kids:=by
 refine Wsem.seq ttok mixed ?_;refine⟨fun h2=>?_,fun h2=>absurd (of_decide_eq_true h2) (fun h=>hf (.inl h))⟩;refine⟨fun h3=>absurd (of_decide_eq_true h3) (fun h=>hf (.inr h)),fun h3=>?_⟩;refine Wsem.cut _ ?_ (zEP (c:=c) (b:=b) (y:=y) (x:=x) (M:=c.kids) hx);cases x with
 | none=>exact⟨⟨rfl,rfl,rfl,rfl,.inr rfl,trivial⟩,trivial,rfl⟩
 | some q=>obtain⟨b0,cap,rest⟩:=q;exact⟨⟨rfl,rfl,rfl,rfl,rfl,trivial⟩,trivial,rfl⟩
theorem zWF {c b:Cr} {y:ByteArray} (M:List Cr) (hk:c.kids.length<=1000000) (next:∀x:Gr,zQZ x c.kids.length->UW (yL (yL (yL (yL (bodyC Tryz.f20))))) (zZO c b y x c.kids) c M):UW (yL (yL (bodyC Tryz.f20))) {vs:=[(1,.v (str y)),(3,.box 0 (eC c)),(5,.box 0 (eC b)),(6,.box 0 eZ)]} c M:=by
 refine Wsem.seq ttok mixed ?_;refine Wsem.seq ttok mixed ?_;refine⟨{s:Nat×Gr // s.1<=c.kids.length/\zQZ s.2 s.1},fun s=>{vs:=[(1,.v (str y)),(3,.box 0 (eC c)),(5,.box 0 (eC b)),(6,.box 0 eZ),(7,.v (.lit (slG s.1.2 s.1.1))),(8,sv (s.1.1:Nat))],hp:=hpG s.1.2 (c.kids.take s.1.1)},fun s=>c.kids.length-s.1.1,⟨(0,none),Nat.zero_le _,rfl⟩,⟨⟨rfl,rfl,rfl,rfl,.inl rfl,rfl,trivial⟩,trivial,rfl⟩,?_⟩;rintro⟨⟨k,x⟩,hkk,hx⟩
 dsimp only at hkk hx
 refine⟨fun h=>?_,fun h=>?_⟩
 ·have hlt:k<c.kids.length:=by have h:=of_decide_eq_true h;rw[zVA] at h;simp only at h;omega
  have htk:(c.kids.take k).length=k:=by simp;omega
  refine⟨eC c.kids[k],by omega,z0U hlt,rfl,?_⟩;cases x with
  | none =>
   have hx:k=0:=hx;subst hx;refine⟨rfl,by simp,by simp,zBI [c.kids[0]],rfl,rfl,fun b' cap' zs g1 g2=>?_⟩;refine⟨⟨(1,some (b',cap',zs)),hlt,⟨by omega,by simpa using g1,by simpa using g2⟩⟩,by simp;omega,⟨rfl,rfl,rfl,rfl,rfl,svc (wrap_succ (k:=0) (by omega)),trivial⟩,trivial,?_⟩;show [(b',HO.cells ([eC c.kids[0]].flatMap AV.cells++zs))]=[(b',HO.cells (flR (eCs (c.kids.take 1)) zs))];rw[List.take_succ_eq_append_getElem hlt];rfl
  | some q =>
   obtain⟨b0,cap,rest⟩:=q;obtain⟨x1,x2,x3⟩:=hx;refine⟨rfl,by simp,by simp;omega,zBI [c.kids[k]],0,_,rfl,x2,?_,fun b' cap' zs g1 g2=>?_⟩
   ·show (flR (eCs (c.kids.take k)) rest).length=cap*10;rw[jX (zBI _),zC9,htk,x3];omega
   refine⟨⟨(k+1,some (b',cap',zs)),hlt,⟨by omega,by simpa using g1,by simpa using g2⟩⟩,by simp;omega,⟨rfl,rfl,rfl,rfl,rfl,svc (wrap_succ (k:=k) (by omega)),trivial⟩,trivial,?_⟩;show [(b',HO.cells ((flR (eCs (c.kids.take k)) rest).take (k*10)++([eC c.kids[k]].flatMap AV.cells++zs)))]=[(b',HO.cells (flR (eCs (c.kids.take (k+1))) zs))];have e:=z3C (c.kids.take k) c.kids[k] rest zs;rw[htk] at e;rw[e,List.take_succ_eq_append_getElem hlt]
 ·have hkq:k=c.kids.length:=by have h:=of_decide_eq_false h;rw[zVA] at h;simp only at h;omega
  subst hkq;refine Wsem.cut _ ?_ (next x hx);cases x with
  | none=>exact⟨⟨rfl,rfl,rfl,rfl,.inr rfl,trivial⟩,trivial,rfl⟩
  | some q =>
   obtain⟨b0,cap,rest⟩:=q;refine⟨⟨rfl,rfl,rfl,rfl,rfl,trivial⟩,trivial,?_⟩;show [(b0,HO.cells (flR (eCs (c.kids.take c.kids.length)) rest))]=_;rw[List.take_length];rfl
theorem z2P {c b:Cr} {y:ByteArray} (U:Cr->Cr) (hne:zC Tryz.prog yF [eC c,eC b] (.sb false)) (hk:c.kids.length<=1000000) (ih:(c.f=4∨c.f=10)->∀p∈c.kids,zC Tryz.prog 20 [eC p,str y,eC b] (eC (U p))):zC Tryz.prog 20 [eC c,str y,eC b] (zRH c (.sl (eCs (if c.f=4∨c.f=10 then c.kids.map U else c.kids)))):=by
 obtain⟨M,hM⟩:∃M,M=if c.f=4∨c.f=10 then c.kids.map U else c.kids:=⟨_,rfl⟩
 rw[<-hM];refine CallsG.pure (post:=zWH c M) ?_ (by
  rintro r o h ⟨rfl,x,hx,rfl,rfl⟩;exact⟨z4S hx,rfl⟩)
 refine zI (first:=[]) (cap:=[]) ttok mixed Tryz.func20 rfl (by rfl) rfl (Nat.le_of_ble_eq_true rfl) (by kernel_rfl) ?_;refine Wsem.seq ttok mixed ?_;refine Wsem.seq ttok mixed ?_;refine .inl ⟨_,hne,?_⟩;refine⟨fun h=>Bool.noConfusion (show false=true from h),fun _=>?_⟩;refine Wsem.cut _ ?_ (zWF (c:=c) (b:=b) (y:=y) M hk fun x hx=>?_)
 ·exact⟨⟨rfl,rfl,rfl,rfl,trivial⟩,trivial,rfl⟩
 ·by_cases hf:c.f=4∨c.f=10
  ·rw[if_pos hf] at hM;subst hM;exact zVM U hx hk hf (ih hf)
  ·rw[if_neg hf] at hM;subst hM;exact zXD hx hf
theorem z0E {c:Cr} {y:ByteArray} (h:zC Tryz.prog yF [eC c,eC c] (.sb true)):zC Tryz.prog 20 [eC c,str y,eC c] (eC (vr y)):=by
 refine zD ttok mixed Tryz.func20 rfl (by rfl) (Nat.le_of_ble_eq_true rfl) (by kernel_rfl) ?_;refine .inl ⟨_,h,?_⟩;refine⟨fun _=>?_,fun h=>Bool.noConfusion (show true=false from h)⟩;exact rfl
def und (y:ByteArray) (b:Cr):Cr->Cr
 | .node f n s t (.kid p (.kid q .nil))=>if .node f n s t (.kid p (.kid q .nil))=b then vr y else if f=4∨f=10 then .node f n s t (.kid (und y b p) (.kid (und y b q) .nil)) else .node f n s t (.kid p (.kid q .nil))
 | c=>if c=b then vr y else c
theorem zPI {c:Cr} (h:Gd c) (hf:c.f=4∨c.f=10):∃p q,c = .node c.f c.n c.s c.t (.kid p (.kid q .nil))/\c.kids=[p,q]/\Gd p/\Gd q/\p.sz<c.sz/\q.sz<c.sz:=by
 have hn:=h.n;have ho:=h.ok;cases c with
 | node f n s t g =>
  have hf:f=4∨f=10:=hf;obtain⟨h1,_,_,h4,h5,h6,_,h8⟩:=ho;have h4:g.kids.length=2:=by rw[h4];rcases hf with rfl|rfl<;>rfl
  have hb:g.binds=[]:=Classical.byContradiction fun q=>by have:=h5 q;omega
  have ha:g.alts=[]:=Classical.byContradiction fun q=>by have:=h6 q;omega
  have hg:=zN8 g h1 h8;rw[hb,ha] at hg
  match hk:g.kids,h4 with
  | [p,q],_ =>
   rw[hk] at hg;have hg:g = .kid p (.kid q .nil):=hg.symm;subst hg;have kp:p∈(Cr.node f n s t (.kid p (.kid q .nil))).kids:=by simp[Cr.kids]
   have kq:q∈(Cr.node f n s t (.kid p (.kid q .nil))).kids:=by simp[Cr.kids]
   refine⟨p,q,rfl,rfl,⟨(h.ok.kid kp).1,(h.ok.kid kp).2,h.few.kid kp,h.ty.kid kp⟩,⟨(h.ok.kid kq).1,(h.ok.kid kq).2,h.few.kid kq,h.ty.kid kq⟩,?_,?_⟩
   ·simp only[Cr.sz];omega
   ·simp only[Cr.sz];omega
 | _=>cases hn
theorem zQ8 {c b:Cr} {y:ByteArray} (h:c=b):und y b c=vr y:=by
 subst h;unfold und;split<;>rw[if_pos rfl]
theorem zIF {c b:Cr} {y:ByteArray} (h:c≠b) (hf:¬(c.f=4∨c.f=10)):und y b c=c:=by
 unfold und;split
 ·rw[if_neg h];exact if_neg hf
 ·rw[if_neg h]
theorem zG4 {b p q:Cr} {y s:ByteArray} {f n:Int} {t:Tp} (h : .node f n s t (.kid p (.kid q .nil))≠b) (hf:f=4∨f=10):und y b (.node f n s t (.kid p (.kid q .nil))) = .node f n s t (.kid (und y b p) (.kid (und y b q) .nil)):=by
 rw[und,if_neg h,if_pos hf]
theorem z06 {b:Cr} {y:ByteArray} (hb:Gd b) (hbs:b.sz<900000) (N:Nat):∀c:Cr,c.sz<=N->N<900000->Gd c->zC Tryz.prog 20 [eC c,str y,eC b] (eC (und y b c)):=by
 induction N with
 | zero=>intro c hs _ hc;have:=zA7 hc.n;omega
 | succ N ih =>
  intro c hs hN hc;have heq:=z1C c.sz c b (Nat.le_refl _) (by omega) hc hb hbs;by_cases e:c=b
  ·rw[zQ8 e];rw[decide_eq_true e] at heq;subst e;exact z0E heq
  ·rw[decide_eq_false e] at heq;have hl:=zMA c hc.ok;have hw:=z2P (c:=c) (y:=y) (und y b) heq (by omega) (fun hf p hp=>by
    obtain⟨p1,q1,h1,h2,h3,h4,h5,h6⟩:=zPI hc hf;rw[h2] at hp;simp only[List.mem_cons,List.not_mem_nil,or_false] at hp;rcases hp with rfl|rfl
    ·exact ih _ (by omega) (by omega) h3
    ·exact ih _ (by omega) (by omega) h4)
   by_cases hf:c.f=4∨c.f=10
   ·obtain⟨p1,q1,h1,h2,h3,h4,h5,h6⟩:=zPI hc hf;rw[if_pos hf,h2] at hw;have e2:und y b c = .node c.f c.n c.s c.t (.kid (und y b p1) (.kid (und y b q1) .nil)):=by
     rw[h1] at e⊢;exact zG4 e hf
    rw[e2];have e3:zRH c (.sl (eCs ([p1,q1].map (und y b))))=eC (.node c.f c.n c.s c.t (.kid (und y b p1) (.kid (und y b q1) .nil))):=by
     rw[h1];rfl
    rw[e3] at hw;exact hw
   ·rw[if_neg hf] at hw;rw[zIF e hf];have e3:zRH c (.sl (eCs c.kids))=eC c:=by unfold zRH eC;rw[zI2]
    rw[e3] at hw;exact hw
theorem z1V {b:Cr} {y:ByteArray} (N:Nat):∀c:Cr,c.sz<=N->Gd c->Gd (und y b c)/\(und y b c).sz<=c.sz:=by
 induction N with
 | zero=>intro c hs hc;have:=zA7 hc.n;omega
 | succ N ih =>
  intro c hs hc;have hp:=zA7 hc.n;by_cases e:c=b
  ·rw[zQ8 e];exact⟨zLV _,by show 1+0<=_;omega⟩
  ·by_cases hf:c.f=4∨c.f=10
   ·obtain⟨p,q,h1,h2,h3,h4,h5,h6⟩:=zPI hc hf;obtain⟨g1,g2⟩:=ih p (by omega) h3;obtain⟨g3,g4⟩:=ih q (by omega) h4;have ht:=hc.ty.node hc.n;rw[h1] at e⊢;rw[zG4 e hf];refine⟨⟨rfl,?_,⟨g1.few,g3.few,trivial⟩,ht,g1.ty,g3.ty,trivial⟩,by simp only[Cr.sz];omega⟩;rcases hf with hf|hf<;>rw[hf]<;>simp[Cr.Ok,Cr.kids,Cr.binds,Cr.alts,Cr.isN,Cr.nk,g1.ok,g3.ok]<;>exact⟨g1.n,g3.n⟩
   ·rw[zIF e hf];exact⟨hc,Nat.le_refl _⟩
theorem TyW.det {own:Nat->ByteArray} {B:Nat} {w:Wd} {c:Cr} {t:Tp} (h:TyW own B w c t):∀u,TyW own B w c u->t=u:=by
 induction h with
 | var hw h hs=>intro u h2;cases h2 with|var _ h' _=>rw[h] at h';exact Option.some.inj h'
 | con hw h=>intro u h2;cases h2 with|con _ h'=>rw[h] at h';rw[Option.some.inj h']
 | int hw=>intro u h2;cases h2 with|int _=>rfl
 | app hw h1 h2 h hs i1 i2=>intro u h3;cases h3 with|app _ k1 _ _ _=>have:=i1 _ k1;injection this
 | lam hw ht h hr ih=>intro u h3;cases h3 with|lam _ _ k _=>rw[ih _ k]
 | tapp hw ht hm ha h hr ih=>intro u h3;cases h3 with|tapp _ _ _ _ k _=>have:=ih _ k;injection this with e1 e2;rw[e1,e2]
 | tlam hw h hr ih=>intro u h3;cases h3 with|tlam _ k _=>rw[ih _ k]
 | bind hw ht h1 h hs h2 i1 i2=>intro u h3;cases h3 with|bind _ _ _ _ _ k=>exact i2 _ k
 | case fW fu hw ht hu hk hl h1 h2 h3 h4 hr i1 i3=>intro u h5;cases h5 with|case _ _ _ _ _ _ _ _ _ _ _ _=>rfl
 | prim hw h1 h2 hu hv hr i1 i2=>intro u h5;cases h5 with|prim _ _ _ _ _ k=>rw[hr] at k;exact Option.some.inj k
 | fail hw ht hr=>intro u h2;cases h2 with|fail _ _ _=>rfl
theorem WOk.mono {B C:Nat} {w:Wd} (h:WOk B w) (hb:B<=C):WOk C w:=⟨h.fl,h.fo,Nat.le_trans h.el hb,h.pl,h.pv,h.dl⟩
theorem TyW.mono {own:Nat->ByteArray} {B C:Nat} (hb:B<=C) {w:Wd} {c:Cr} {t:Tp} (h:TyW own B w c t):TyW own C w c t:=by
 induction h with
 | var hw h hs=>exact .var (hw.mono hb) h hs
 | con hw h=>exact .con (hw.mono hb) h
 | int hw=>exact .int (hw.mono hb)
 | app hw h1 h2 h hs i1 i2=>exact .app (hw.mono hb) i1 i2 h hs
 | lam hw ht h hr ih=>exact .lam (hw.mono hb) ht ih hr
 | tapp hw ht hm ha h hr ih=>exact .tapp (hw.mono hb) ht hm ha ih hr
 | tlam hw h hr ih=>exact .tlam (hw.mono hb) ih hr
 | bind hw ht h1 h hs h2 i1 i2=>exact .bind (hw.mono hb) ht i1 h hs i2
 | case fW fu hw ht hu hk hl h1 h2 h3 h4 hr i1 i3=>exact .case fW fu (hw.mono hb) ht hu hk hl i1 h2 i3 h4 hr
 | prim hw h1 h2 hu hv hr i1 i2=>exact .prim (hw.mono hb) i1 i2 hu hv hr
 | fail hw ht hr=>exact .fail (hw.mono hb) ht hr
def Wd.pre (w:Wd) (x:Nm2):Wd:={w with env:=x::w.env}
theorem zS6 {l:List Nm2} {s:ByteArray} {t:Tp} (x:Nm2) (h:wM l s=some t):wM (x::l) s=some t:=by
 unfold wM at h⊢;obtain⟨p,h1,h2⟩:=Option.map_eq_some_iff.1 h;rw[List.reverse_cons,List.find?_append,h1];exact congrArg some h2
theorem zP9 {w w2:Wd} {u:Tp} {a:Al} (x:Nm2) (h:jH w u a=some w2):jH (w.pre x) u a=some (w2.pre x):=by
 unfold jH at h⊢;show (if a.1.1=3 then some (w.pre x) else if a.1.1=2 then (if smb u (.con yK) [] []=true then some (w.pre x) else none)
  else if a.1.1=1 then (match qH w.fs a.1.2.2 with
   | none=>none
   | some f=>match qL f with
    | none=>none
    | some (l,n,vs)=>if (zA0 u).form=3/\(zA0 u).nam=n/\(zY u).length=vs.length/\a.2.1.length=l.length/\a.2.1.Nodup then some ((w.pre x).more (wR a.2.1 l (bys vs u))) else none)
  else none)=_
 split at h
 ·rename_i h3;cases h;rw[if_pos h3]
 ·rename_i h3;rw[if_neg h3];split at h
  ·rename_i h2;rw[if_pos h2];split at h
   ·rename_i hs;cases h;rw[if_pos hs]
   ·cases h
  ·rename_i h2;rw[if_neg h2];split at h
   ·rename_i h1;rw[if_pos h1];split at h
    ·cases h
    ·rename_i f hf;split at h
     ·cases h
     ·rename_i l n vs hsh;split at h
      ·rename_i hc;cases h
       simp only[hf,hsh];rw[if_pos hc];rfl
      ·cases h
   ·cases h
theorem WOk.pre {B:Nat} {w:Wd} (h:WOk B w) (x:Nm2):WOk (B+1) (w.pre x):=⟨h.fl,h.fo,by have:=h.el;show (x::w.env).length<=_;simp;omega,h.pl,h.pv,h.dl⟩
theorem TyW.pre {own:Nat->ByteArray} {B:Nat} {w:Wd} {c:Cr} {t:Tp} (x:Nm2) (h:TyW own B w c t):TyW own (B+1) (w.pre x) c t:=by
 induction h with
 | var hw h hs=>exact .var (hw.pre x) (zS6 x h) hs
 | con hw h=>exact .con (hw.pre x) h
 | int hw=>exact .int (hw.pre x)
 | app hw h1 h2 h hs i1 i2=>exact .app (hw.pre x) i1 i2 h hs
 | lam hw ht h hr ih=>exact .lam (hw.pre x) ht ih hr
 | tapp hw ht hm ha h hr ih=>exact .tapp (hw.pre x) ht hm ha ih hr
 | tlam hw h hr ih=>exact .tlam (hw.pre x) ih hr
 | bind hw ht h1 h hs h2 i1 i2=>exact .bind (hw.pre x) ht i1 h hs i2
 | case fW fu hw ht hu hk hl h1 h2 h3 h4 hr i1 i3=>exact .case (fun a=>(fW a).pre x) fu (hw.pre x) ht hu hk hl i1 (fun a ha=>⟨zP9 x (h2 a ha).1,(h2 a ha).2⟩) i3 h4 hr
 | prim hw h1 h2 hu hv hr i1 i2=>exact .prim (hw.pre x) i1 i2 hu hv hr
 | fail hw ht hr=>exact .fail (hw.pre x) ht hr
theorem z2D {t:Tp} {s:ByteArray} (h:db t [] = .con s):t = .con s:=by
 cases t with
 | con u=>simp only[db,Db.con.injEq] at h;rw[h]
 | var u=>simp[db,memb] at h
 | _=>simp[db] at h
theorem zVT {t:Tp} {x y:Db} (h:db t [] = .app x y):∃a b,t = .app a b/\db a []=x/\db b []=y:=by
 cases t with
 | app a b=>simp only[db,Db.app.injEq] at h;exact⟨a,b,rfl,h.1,h.2⟩
 | var u=>simp[db,memb] at h
 | _=>simp[db] at h
theorem z3J {t u v:Tp} (h:db t []=db (fnT u v) []):∃a b,t=fnT a b/\db a []=db u []/\db b []=db v []:=by
 obtain⟨x,b,rfl,h1,h2⟩:=zVT (x:=db (.app (.con arrow) u) []) (y:=db v []) h;obtain⟨z,a,rfl,h3,h4⟩:=zVT (x := .con arrow) (y:=db u []) h1;have:=z2D h3;subst this;exact⟨a,b,rfl,h4,h2⟩
theorem smb_db0 {a b:Tp}:smb a b [] []=true↔db a []=db b []:=zLY a b [] [] rfl
theorem z2R {own:Nat->ByteArray} {B:Nat} {w:Wd} {y:ByteArray} {b:Cr} {T tb:Tp} (hb:TyW own B w b tb) (hT:db tb []=db T []) (hTs:T.sz<=700) (hw:WOk (B+1) (w.pre (y,T))) (hn:wM ((y,T)::w.env) y=some T):∀(N:Nat) (c:Cr) (t:Tp),c.sz<=N->TyW own B w c t->∃t',TyW own (B+1) (w.pre (y,T)) (und y b c) t'/\db t' []=db t []:=by
 intro N;induction N with
 | zero=>intro c t hs h;cases h<;>simp[Cr.sz] at hs
 | succ N ih =>
  intro c t hs h;by_cases e:c=b
  ·subst e;rw[zQ8 rfl];have:=hb.det _ h;subst this;exact⟨T,.var hw hn hTs,hT.symm⟩
  ·by_cases hf:c.f=4∨c.f=10
   ·cases h with
    | @app _ n s t0 u u' _ p q hw2 h1 h2 h3 h4 =>
     rw[zG4 e (.inl rfl)];obtain⟨t1,k1,k2⟩:=ih p _ (by simp only[Cr.sz] at hs;omega) h1;obtain⟨t2,k3,k4⟩:=ih q _ (by simp only[Cr.sz] at hs;omega) h2;obtain⟨a,v,rfl,k5,k6⟩:=z3J k2;have hz:=k1.sz;simp only[Tp.sz] at hz;exact⟨v,.app hw k1 k3 (smb_db0.2 (by rw[k5,k4];exact smb_db0.1 h3)) (by omega),k6⟩
    | @prim _ n s t0 u v r p q hw2 h1 h2 hu hv hr =>
     rw[zG4 e (.inr rfl)];obtain⟨t1,k1,k2⟩:=ih p _ (by simp only[Cr.sz] at hs;omega) h1;obtain⟨t2,k3,k4⟩:=ih q _ (by simp only[Cr.sz] at hs;omega) h2;have z1:=k1.sz;have z2:=k3.sz;exact⟨t,.prim hw k1 k3 ⟨smb_db0.2 (by rw[k2];exact smb_db0.1 hu.1),by omega⟩ ⟨smb_db0.2 (by rw[k4];exact smb_db0.1 hv.1),by omega⟩ hr,rfl⟩
    | _=>rcases hf with hf|hf<;>exact absurd hf (by simp[Cr.f])
   ·rw[zIF e hf];exact⟨t,h.pre _,rfl⟩
theorem zKG:∀{a b:Tp} {e e':List ByteArray},db a e=db b e'->a.sz=b.sz
 | .no,b,e,e',h=>by cases b<;>simp[db] at h<;>first|rfl|(split at h<;>simp at h)
 | .mt n,b,e,e',h=>by cases b<;>simp[db] at h<;>first|rfl|(split at h<;>simp at h)
 | .con s,b,e,e',h=>by cases b<;>simp[db] at h<;>first|rfl|(split at h<;>simp at h)
 | .var s,b,e,e',h=>by
  cases b with
  | var u=>rfl
  | _=>simp only[db] at h;split at h<;>simp at h
 | .app x y,b,e,e',h=>by
  cases b with
  | app u v=>simp only[db,Db.app.injEq] at h;simp only[Tp.sz,zKG h.1,zKG h.2]
  | var u=>simp only[db] at h;split at h<;>simp at h
  | _=>simp[db] at h
 | .all s x,b,e,e',h=>by
  cases b with
  | all u v=>simp only[db,Db.all.injEq] at h;simp only[Tp.sz,zKG h]
  | var u=>simp only[db] at h;split at h<;>simp at h
  | _=>simp[db] at h
theorem zHV:∀{a b:Tp} {e e':List ByteArray},db a e=db b e'->NmX b->NmX a
 | .no,b,e,e',h,hb=>by
  cases b with
  | no=>exact hb
  | var u=>simp only[db] at h;split at h<;>simp at h
  | _=>simp[db] at h
 | .mt n,b,e,e',h,hb=>by
  cases b with
  | mt m=>simp only[db,Db.mt.injEq] at h;rw[h];exact hb
  | var u=>simp only[db] at h;split at h<;>simp at h
  | _=>simp[db] at h
 | .con s,b,e,e',h,hb=>trivial
 | .var s,b,e,e',h,hb=>trivial
 | .app x y,b,e,e',h,hb=>by
  cases b with
  | app u v=>simp only[db,Db.app.injEq] at h;exact⟨zHV h.1 hb.1,zHV h.2 hb.2⟩
  | var u=>simp only[db] at h;split at h<;>simp at h
  | _=>simp[db] at h
 | .all s x,b,e,e',h,hb=>by
  cases b with
  | all u v=>simp only[db,Db.all.injEq] at h;exact zHV (a:=x) (b:=v) h hb
  | var u=>simp only[db] at h;split at h<;>simp at h
  | _=>simp[db] at h
theorem zZ9 {a b c:Tp} {K:Nat} (ha:db a []=db c []) (hb:db b []=db c []) (hc:TkX c) (hs:Shn K c) (hz:c.sz<=700) (hK:K<=1000000000000):zC Tryz.prog xA [eTy a,eTy b] (.sb true):=by
 have ea:nl a []=nl c []:=zJH (by rw[zCS,zCS];exact congrArg ser ha);have eb:nl b []=nl c []:=zJH (by rw[zCS,zCS];exact congrArg ser hb);have z1:=zKG ha;have z2:=zKG hb;have h1:=zRJ c [] hc hs (by simp;omega);have m1:(K+20)*c.sz<=1000000000020*700:=Nat.mul_le_mul (by omega) hz;have d1:=zBJ a;have d2:=zBJ b;have h:=zK7 (zHV ha hc.nm) (zHV hb hc.nm) (by omega) (by omega) (by rw[ea];omega) (by rw[eb];omega);rw[decide_eq_true (ea.trans eb.symm)] at h;exact h
theorem zNG {B:Nat} (hB:B<=60000) {env:List Nm2} {c:Cr} {t:Tp} (h:TyW zA2 B (.of yO env) c t):zC Tryz.prog 12 [.sl (zD4 yO),.sl (xZ env),eC c] (.tup [eTy t,.lit (.int .i64 0)]) :=
 zF0 (zII hB h) (K:=1000) (jC (by have:=h.sz;show t.sz+0<=_;omega) (by simp) (fun p hp=>by cases hp) h.sz)
abbrev z5D (x:ByteArray) (t:Tp) (b p:Cr):Cr := .node 8 0 .empty .no (.kid p (.bind x t b .nil))
theorem z1H {c b:Cr} {tc T:Tp} (hc:zSL c tc) (hb:zSL b T):∃t t1,TyW zA2 50001 wF (z5D sy T b (und sy b c)) t/\TyW zA2 50001 wF (zAL (zEH sy T (und sy b c)) b) t/\Alk t1 tc/\db t []=db t1 []:=by
 have hwF:WOk 50000 wF:=(zZ4 (own:=zA2)).ok z1D (by decide);have hw1:WOk 50001 wF:=hwF.mono (by decide);obtain⟨tb,hb1,ab⟩:=zFG hb zME zZ4;obtain⟨t1,hc1,ac⟩:=zFG hc zME zZ4;have c2:Cmp zA2 v0 (⟨yO,[(sy,T)],[],0⟩:Wd):=cmp0 rfl (by simp) (by simp) (by simp) (fun p hp=>by cases hp);obtain⟨tb2,hb2,ab2⟩:=zFG hb zME c2;have hs:=ab.sz;have em:wF.mean T=T:=zG9 T;obtain⟨t,ht,hd⟩:=z2R (y:=sy) hb1 (ab.db [] []) (by omega:T.sz<=700) (hwF.pre _) (zH8 (k:=0) (l:=[(sy,T)]) (by simp) rfl (fun j h1 h2=>by simp at h2;omega)) c.sz c t1 (Nat.le_refl _) hc1;have hz:=zKG hd;have hs1:=ac.sz;have ht:TyW zA2 50001 (wF.more [(sy,wF.mean T)]) (und sy b c) t:=by rw[em];exact ht
 refine⟨t,t1,?_,?_,ac,hd⟩
 ·refine .bind hw1 (by omega) (u:=tb2) (by rw[em];exact hb2.mono (by decide)) ?_ (by have:=ab2.sz;omega) ht;rw[em];exact smb_db0.2 (ab2.db [] [])
 ·have hl:=TyW.lam (n:=0) hw1 (by omega) ht (by rw[em];simp only[Tp.sz];omega);rw[em] at hl;exact .app hw1 hl (hb1.mono (by decide)) (smb_db0.2 (ab.db [] []).symm) (by omega)
theorem zNU {l0 l1:List Int} (hl0:l0.length<9223372036854775808) (hr0:∀x∈l0,InR x) (hl1:l1.length<9223372036854775808) (hr1:∀x∈l1,InR x):zC Tryz.prog 4 [.sl (eIs l0),.sl (eIs l1)] (.sb true):=by
 obtain⟨c,tc,hm,hc⟩:=zNO hl0 hr0;obtain⟨b,T,hm2,hb⟩:=zNO hl1 hr1;obtain⟨t,t1,h1,h2,ha,hd⟩:=z1H hm hm2;have hT:T.sz<=50:=by obtain⟨_,_,a2⟩:=zFG hm2 zME zZ4;exact a2.sz.2
 have gc:=hm.1;have gb:=hm2.1;have hu:=z06 (y:=sy) gb.1 (by omega) c.sz c (Nat.le_refl _) (by omega) gc.1;obtain⟨gu,su⟩:=z1V (b:=b) (y:=sy) c.sz c (Nat.le_refl _) gc.1;have gl:Gd (zEH sy T (und sy b c)):=zB4 (.inl rfl) (yD (by omega)) gu;have q1:(zEH sy T (und sy b c)).sz<90000:=by simp only[Cr.sz];omega
 have same:zC Tryz.prog xA [eTy t,eTy t] (.sb true):=zZ9 hd hd ha.tk.1 ha.tk.2 (by have:=ha.sz;omega) (by decide);generalize und sy b c=k at *;refine zD ttok mixed Tryz.func4 rfl (by rfl) (Nat.le_of_ble_eq_true rfl) (by kernel_rfl) ?_;refine .inl ⟨_,hb,?_⟩;refine .inl ⟨_,hc,?_⟩;refine .inl ⟨_,zJ0,?_⟩;refine .inl ⟨_,hu,?_⟩;refine .inl ⟨_,zNG (by decide) (env:=[]) h1,?_⟩;refine .inl ⟨_,zN6 (s:=sy) (t:=T) (c:=k) (yD (by omega)) (zCU gu (by omega)),?_⟩;refine .inl ⟨_,zO0 (f:=zEH sy T k) (l:=[b]) (zCU gl q1) (fun d hd=>by rw[List.mem_singleton.1 hd];exact zCU gb.1 (by omega)) (Nat.le_of_ble_eq_true rfl),?_⟩;refine .inl ⟨_,zNG (by decide) (env:=[]) h2,?_⟩;refine⟨by kernel_rfl,?_⟩;refine⟨fun _=>?_,fun h=>Bool.noConfusion (show true=false from h)⟩;refine⟨fun _=>?_,fun h=>Bool.noConfusion (show true=false from h)⟩;refine .inl ⟨_,same,?_⟩;refine⟨fun _=>?_,fun h=>Bool.noConfusion (show true=false from h)⟩;refine .inl ⟨_,zPY,?_⟩;exact rfl
end Go.Proofs.YtdmbahepaglcbaaGreatDoor
