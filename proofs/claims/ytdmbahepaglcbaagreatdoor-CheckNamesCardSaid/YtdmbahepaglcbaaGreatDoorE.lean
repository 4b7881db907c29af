/- own: the names of the alternatives. No condition but that there is little. -/
import Derived.Test.YtdmbahepaglcbaaGreatDoorD
import Derived.Test.YtdmbahepaglcbaaGreatDoorFpM
set_option linter.unusedSimpArgs false
set_option linter.unusedVariables false
namespace Go.Proofs.YtdmbahepaglcbaaGreatDoor
open Go Fp
set_option maxRecDepth 10000
set_option maxHeartbeats 16000000
set_option linter.unusedVariables false
abbrev lA (ls:List Alg) (k:Nat) (vs:List VA):List AV:=wR (ls.take k) vs++yY (ls.drop k)
theorem zeC (ls:List Alg) (k:Nat) (vs:List VA):Uni 14 (lA ls k vs):=zNW (zIL _ _) (zHW _)
theorem zd7 {ls:List Alg} {k:Nat} {vs:List VA} (hk:k<=ls.length) (hv:vs.length=k):(lA ls k vs).length=ls.length:=by
 simp[lA,wR,yY,hv];omega
theorem zeK {ls:List Alg} {k:Nat} {vs:List VA} (hk:k<ls.length) (hv:vs.length=k):(lA ls k vs)[k]? = some (eAl ls[k]):=by
 have h1:(wR (ls.take k) vs).length=k:=by simp[wR,hv];omega
 rw[List.getElem?_append_right (by omega),h1,Nat.sub_self];unfold yY;rw[List.getElem?_map,List.getElem?_drop,Nat.add_zero,List.getElem?_eq_getElem hk];rfl
theorem zcX {ls:List Alg} {k:Nat} {vs:List VA} {v:VA} (hk:k<ls.length) (hv:vs.length=k):(lA ls k vs).set k (zW0 ls[k] v)=lA ls (k+1) (vs++[v]):=by
 have h1:(wR (ls.take k) vs).length=k:=by simp[wR,hv];omega
 unfold lA;rw[List.set_append_right _ _ (by omega),h1,Nat.sub_self,List.drop_eq_getElem_cons hk,List.take_succ_eq_append_getElem hk];simp only[yY,List.map_cons,List.set_cons_zero];rw[wR,wR,List.zipWith_append (by simp[hv];omega)];simp[List.append_assoc]
theorem zbY {ls:List Alg} {k:Nat} {vs:List VA} {v:VA} (hk:k<ls.length) (hv:vs.length=k):hV (ls.take k) vs++blk v ls[k].2.1.length (flR (eSs ls[k].2.1) v.z)=hV (ls.take (k+1)) (vs++[v]):=by
 unfold hV;rw[List.take_succ_eq_append_getElem hk,List.zipWith_append (by simp[hv];omega)];simp
structure VsOk (ls:List Alg) (vs:List VA):Prop where
 vs:∀(i:Nat) (a:Alg) (v:VA),ls[i]? = some a->vs[i]? = some v->VAok v a.2.1.length
theorem VsOk.snoc {ls:List Alg} {k:Nat} {vs:List VA} {v:VA} (h:VsOk ls vs) (hk:k<ls.length) (hv:vs.length=k) (hok:VAok v ls[k].2.1.length):VsOk ls (vs++[v]):=⟨fun i a w ha hw=>by
 rcases Nat.lt_or_ge i vs.length with hi|hi
 ·rw[List.getElem?_append_left hi] at hw;exact h.vs i a w ha hw
 ·rw[List.getElem?_append_right hi] at hw;have:i=k:=by
   have:=(List.getElem?_eq_some_iff.1 hw).1;simp at this;omega
  subst this;rw[hv,Nat.sub_self] at hw;simp at hw;subst hw;rw[List.getElem?_eq_getElem hk] at ha;injection ha with ha;subst ha;exact hok⟩
theorem z5P (c:Cr) (b0:Nat) (vk vb va:VA) (hvk:VAok vk c.kids.length) (hvb:VAok vb c.binds.length) (hva:VAok va c.alts.length) (hk:c.kids.length<=100000) (hb:c.binds.length<=100000) (ha:c.alts.length<=100000) (hv:∀a∈c.alts,a.2.1.length<=1000000)
  (ih:∀(p:Pp) (d:Cr),zOA (zA6 c) p=some d->zF Tryz.prog wH [eC d] (eC d)) (HB:List (Nat×HO)) (hHB:HB=blk vk c.kids.length (flR (eCs c.kids) vk.z)++blk vb c.binds.length (flR (yK c.binds) vb.z)) :
  Wsem Tryz.prog (sn4 (bodyC Tryz.f56)) (mkC {vs:=[(1,.box 0 (.agg (zBJ ⟨b0,vk,vb,va,[]⟩ (zA6 c)))),(2,.box 0 eZ)],hp:=HB++blk va c.alts.length (flR (yY c.alts) va.z)})
   (fun c2=>wZ tt Tryz.f56.results.toList (fun r o h=>zMW c r o h) (den c2)) (fun _ _=>False) (fun c2=>wZ tt Tryz.f56.results.toList (fun r o h=>zMW c r o h) (den c2)):=by
 obtain⟨BX,hBX⟩:∃BX,BX=zBJ ⟨b0,vk,vb,va,[]⟩ (zA6 c):=⟨_,rfl⟩
 refine Wsem.seqS (Wsem.seqS (Wsem.of ttok mixed ?_));refine Wsem.block (Wsem.loop (α:={p:Nat×List VA // p.1<=c.alts.length/\p.2.length=p.1/\VsOk c.alts p.2})
  (fun p=>{vs:=[(1,.box 0 (.agg (zBJ ⟨b0,vk,vb,va,[]⟩ (zA6 c)))),(2,.box 0 eZ),(46,sv (c.alts.length:Nat)),(47,sv (p.1.1:Nat))],hp:=HB++(blk va c.alts.length (flR (lA c.alts p.1.1 p.1.2) va.z)++hV (c.alts.take p.1.1) p.1.2)})
  (fun p=>c.alts.length-p.1.1) ⟨(0,[]),Nat.zero_le _,rfl,⟨fun i a v _ h=>by simp at h⟩⟩ ⟨⟨rfl,rfl,rfl,rfl,trivial⟩,trivial,?_⟩ ?_)
 ·show HB++_=HB++_;simp[hV,lA,wR]
 rintro⟨⟨k,vs⟩,hkk,hvl,hvo⟩;simp only at hkk hvl hvo;refine Wsem.seq ttok mixed ?_;refine Wsem.seq ttok mixed ?_;refine⟨fun h0=>?_,fun h0=>?_⟩
 ·have h:k<c.alts.length:=by have h:=of_decide_eq_true h0;simp only at h;omega
  clear h0;obtain⟨b,hA,hcap⟩:=hva.pos (by omega);obtain⟨A,cap,z⟩:=va;simp only at hA hcap;subst hA;have hun:=zeC c.alts k vs;have hlen:=zd7 (ls:=c.alts) hkk hvl;have hgl:=zeK h hvl;have hkl:k<(lA c.alts k vs).length:=by omega
  have hgx:(lA c.alts k vs)[k]=eAl c.alts[k]:=by rw[List.getElem?_eq_getElem hkl] at hgl;exact Option.some.inj hgl
  have hbk:∀l,blk (⟨some ⟨b,0,none⟩,cap,z⟩:VA) c.alts.length l=[(b,HO.cells l)]:=fun l=>zI2 (by omega) rfl;have hget:(HB++(blk (⟨some ⟨b,0,none⟩,cap,z⟩:VA) c.alts.length (flR (lA c.alts k vs) z)++hV (c.alts.take k) vs))[HB.length]? = some (b,HO.cells (flR (lA c.alts k vs) z)):=by rw[hbk];simp
  have hrd:=zKU hun z hkl 3 (by decide);rw[hgx] at hrd;have hrd2:(flR (lA c.alts k vs) z)[0+k*14+3]? = some (.sl (eSs c.alts[k].2.1)):=by rw[Nat.zero_add];exact hrd
  have hvn:=hv _ (List.getElem_mem h);refine Wsem.seqS (Wsem.block ?_);refine Wsem.seq ttok mixed ?_;refine Wsem.regionT ttok mixed [0,1,2,3,4,5,6,7,8,9,10,11,12] [false,false,false,false,false,false,false,false,false,true] (by kernel_rfl) ?_;refine⟨by omega,by show (k:Int)<_;simp only[zA6];omega,?_⟩;refine⟨HB.length,_,_,hget,hrd2,?_⟩;refine⟨[],[],_,rfl,List.nodup_nil,zbR c.alts[k].2.1 hvn,zQG _ (by simp[eSs]),?_⟩;rintro _ _ _ ⟨rfl,v,hv1,rfl,rfl⟩;have hfit:0+k*14+3+1<=(flR (lA c.alts k vs) z).length:=by have:=zEE hun z hkl 3 1 (by decide);omega
  have hget2:(yD [] (HB++(blk (⟨some ⟨b,0,none⟩,cap,z⟩:VA) c.alts.length (flR (lA c.alts k vs) z)++hV (c.alts.take k) vs))++blk v c.alts[k].2.1.length (flR (eSs c.alts[k].2.1) v.z))[HB.length]? = some (b,HO.cells (flR (lA c.alts k vs) z)):=by rw[hbk,zIF];simp
  refine⟨by omega,by show (k:Int)<_;simp only[zA6];omega,?_⟩;refine⟨rfl,HB.length,_,hget2,hfit,?_⟩;refine⟨by kernel_rfl,?_⟩;refine Wsem.of ttok mixed ?_;refine⟨⟨(k+1,vs++[v]),h,by simp[hvl],hvo.snoc h hvl hv1⟩,by show c.alts.length-(k+1)<c.alts.length-k;omega,⟨rfl,rfl,rfl,svc (wrap_succ (k:=k) (by omega)),trivial⟩,trivial,?_⟩;show (yD [] (HB++(blk (⟨some ⟨b,0,none⟩,cap,z⟩:VA) c.alts.length (flR (lA c.alts k vs) z)++hV (c.alts.take k) vs))++blk v c.alts[k].2.1.length (flR (eSs c.alts[k].2.1) v.z)).set HB.length (b,HO.cells (setAt (flR (lA c.alts k vs) z) (0+k*14+3) [slA v c.alts[k].2.1.length]))=HB++(blk (⟨some ⟨b,0,none⟩,cap,z⟩:VA) c.alts.length (flR (lA c.alts (k+1) (vs++[v])) z)++hV (c.alts.take (k+1)) (vs++[v]));have hw:=zID hun z hkl 3 [slA v c.alts[k].2.1.length] (Nat.le_of_ble_eq_true rfl);rw[hgx] at hw;rw[zIF,hbk,hbk,<-zbY h hvl,<-zcX h hvl,Nat.zero_add,hw];simp
  rfl
 ·have h:k=c.alts.length:=by have h:=of_decide_eq_false h0;simp only at h;omega
  clear h0;subst h;have hoks:AdOk (⟨b0,vk,vb,va,vs⟩:Ad) (zA6 c):=⟨hvk,hvb,hva,hvl,hvo.vs⟩
  refine Wsem.cut _ ?_ (z9Q c ⟨b0,vk,vb,va,vs⟩ (zA6 c) hoks hk hb ha hv rfl ih);refine⟨⟨rfl,rfl,trivial⟩,trivial,?_⟩;show HB++(_++hV (c.alts.take c.alts.length) vs)=hM _ _;simp only[lA,List.take_length,List.drop_length,yY,List.map_nil,List.append_nil];rw[hHB,List.append_assoc];rfl
theorem z2H (c:Cr) (hN:c.isN=true) (ho:c.Ok) (hf:c.Few) (hs:c.sz<90000) (ht:TyS c.t) (hbt:∀b∈c.binds,TyS b.2.1) (ih:∀(p:Pp) (d:Cr),zOA (zA6 c) p=some d->zF Tryz.prog wH [eC d] (eC d)) :
  CallsG Tryz.prog (fnv wH) [] [eC c] [] fun r o h=>zMW c r o h:=by
 have hl:=zD3 c ho;refine yF (first:=[]) (cap:=[]) ttok mixed Tryz.func56 rfl (by rfl) rfl (Nat.le_of_ble_eq_true rfl) (by kernel_rfl) ?_;refine Wsem.seq ttok mixed ?_;refine Wsem.seq ttok mixed ?_;refine .inl ⟨_,zQJ ht,?_⟩;refine Wsem.seqS (Wsem.regionT ttok mixed [0,1,3,4,6,7,2,5,8,9,10,11,12,13,14] [false,false,false,false,false,false,true,true,true] (by kernel_rfl) ?_);refine⟨[],[],_,rfl,List.nodup_nil,zcV c (by omega),zQG _ (by simp[eCs]),?_⟩;rintro _ _ _ ⟨rfl,vk,hvk,rfl,rfl⟩;refine⟨[],[],_,rfl,List.nodup_nil,zc9 c (by omega),zQG _ (by simp[yK]),?_⟩;rintro _ _ _ ⟨rfl,vb,hvb,rfl,rfl⟩;refine⟨[],[],_,rfl,List.nodup_nil,zbU c (by omega),zQG _ (by simp[yY]),?_⟩;rintro _ _ _ ⟨rfl,va,hva,rfl,rfl⟩;refine⟨by kernel_rfl,?_⟩;have lb:(c.e3 1).length=c.binds.length:=zNP c;obtain⟨x,hx⟩:∃x,x=zA6 c:=⟨_,rfl⟩
 obtain⟨ad0,had⟩:∃ad0:Ad,ad0=⟨0,vk,vb,va,[]⟩:=⟨_,rfl⟩
 obtain⟨HK,hHK⟩:∃HK,HK=blk vk c.kids.length (flR (eCs c.kids) vk.z):=⟨_,rfl⟩
 obtain⟨HA,hHA⟩:∃HA,HA=blk va c.alts.length (flR (yY c.alts) va.z):=⟨_,rfl⟩
 refine Wsem.cut {vs:=[(1,.box 0 (.agg (zBJ ad0 x))),(2,.box 0 eZ)],hp:=HK++(blk vb c.binds.length (flR (yK c.binds) vb.z)++HA)} ?_ ?_
 ·subst hx;subst had;subst hHK;subst hHA;refine⟨⟨rfl,rfl,trivial⟩,trivial,?_⟩;show yD [] (yD [] (_++_)++_)++_=_;simp only[zIF];simp only[List.nil_append,List.append_assoc]
 refine Wsem.seq ttok mixed ?_;refine⟨{k:Nat // k<=c.binds.length},fun k=>{vs:=[(1,.box 0 (.agg (zBJ ad0 x))),(2,.box 0 eZ),(27,sv (c.binds.length:Nat)),(28,sv (k.1:Nat))],hp:=HK++(blk vb c.binds.length (flR (yK c.binds) vb.z)++HA)},
  fun k=>c.binds.length-k.1,⟨0,Nat.zero_le _⟩,⟨⟨rfl,rfl,?_,rfl,trivial⟩,trivial,rfl⟩,?_⟩
 ·subst hx;rfl
 rintro⟨k,hkk⟩;refine⟨fun h=>?_,fun h=>?_⟩
 ·have h:k<c.binds.length:=by have h:=of_decide_eq_true h;simp only at h;omega
  obtain⟨b,hA,hcap⟩:=hvb.pos (by omega);obtain⟨A,cap,z⟩:=vb;simp only at hA;subst hA;have hbk:blk (⟨some ⟨b,0,none⟩,cap,z⟩:VA) c.binds.length (flR (yK c.binds) z)=[(b,HO.cells (flR (yK c.binds) z))]:=zI2 (by omega) rfl;obtain⟨t1,t2⟩:=zaZ (bs:=c.binds) (z:=z) h;have hty:zF Tryz.prog zMR [.agg (((flR (yK c.binds) z).drop (0+k*15+1)).take 4)] (eTy c.binds[k].2.1):=by rw[t1];exact zQJ (hbt _ (List.getElem_mem h))
  have hget:(HK++(blk (⟨some ⟨b,0,none⟩,cap,z⟩:VA) c.binds.length (flR (yK c.binds) z)++HA))[HK.length]? = some (b,HO.cells (flR (yK c.binds) z)):=by rw[hbk];simp
  subst hx;subst had;refine⟨by omega,by show (k:Int)<_;simp only[zA6];omega,?_⟩;refine⟨HK.length,_,hget,t2,?_⟩;refine .inr (.inl ⟨_,hty,?_⟩);refine⟨by omega,by show (k:Int)<_;simp only[zA6];omega,?_⟩;refine⟨rfl,HK.length,_,hget,t2,?_⟩;refine⟨by kernel_rfl,?_⟩;refine⟨⟨k+1,h⟩,by simp;omega,⟨rfl,rfl,rfl,svc (wrap_succ (k:=k) (by omega)),trivial⟩,trivial,?_⟩;show (HK++(blk (⟨some ⟨b,0,none⟩,cap,z⟩:VA) c.binds.length (flR (yK c.binds) z)++HA)).set HK.length (b,HO.cells (setAt (flR (yK c.binds) z) (0+k*15+1) (eTy c.binds[k].2.1).cells))=_;rw[<-t1,zWK t2,hbk];simp
 ·have h:k=c.binds.length:=by have h:=of_decide_eq_false h;simp only at h;omega
  subst h;subst hx;subst had;subst hHK;subst hHA;refine Wsem.cut _ ?_ (z5P c 0 vk vb va hvk hvb hva (by omega) (by omega) (by omega) (fun a ha=>by have:=(hf.alt ha).2;omega) ih _ rfl);refine⟨⟨rfl,rfl,trivial⟩,trivial,?_⟩;show blk vk _ _++(blk vb _ _++blk va _ _)=(blk vk _ _++blk vb _ _)++blk va _ _;rw[List.append_assoc]
theorem zK2 {v:VA} {n sz:Nat} {M L:List AV} {h:List (Nat×HO)} (hv:VAok v n) (hM:M.length=n) (hL:L.length=n) (uM:Uni sz M) (uL:Uni sz L) (hcl:∀x∈L,∀c∈x.cells,c.isCell=true) (hin:∀e∈blk v n (flR M v.z),e∈h)
  (he:∀(i:Nat) x y,M[i]? = some x->L[i]? = some y->∀(j:Nat) c c',x.cells[j]? = some c->y.cells[j]? = some c'->Frz h c c'):Frz h (slA v n) (.sl L):=by
 rcases Nat.eq_zero_or_pos n with h0|h0
 ·subst h0;have:L=[]:=List.length_eq_zero_iff.1 hL;subst this;exact (hv.n0 rfl).frz
 ·obtain⟨b,hb,hcap⟩:=hv.pos h0;have hbl:=zEJ (l:=flR M v.z) hv h0;have hno:v.no=b:=by simp[VA.no,hb]
  rw[hno] at hbl;unfold slA;rw[hb];refine .sl b 0 n v.cap sz (flR M v.z) L (hin _ (by rw[hbl];simp)) hL hcap uL hcl (by rw[zFE uM,hM];omega) fun i x j c c' hx hj hc'=>?_;have hi:=(List.getElem?_eq_some_iff.1 hx).1;have hiM:i<M.length:=by omega
  have hj1:=(List.getElem?_eq_some_iff.1 hj).1;rw[uL x (List.mem_of_getElem? hx)] at hj1;rw[Nat.zero_add,zKU uM v.z hiM j hj1] at hc';exact he i _ x (List.getElem?_eq_getElem hiM) hx j _ _ hc' hj
theorem zM6 {h:List (Nat×HO)} {M:List AV}:∀(i:Nat) x y,M[i]? = some x->M[i]? = some y->∀(j:Nat) c c',x.cells[j]? = some c->y.cells[j]? = some c'->Frz h c c':=fun i x y hx hy j c c' hc hc'=>by
 rw[hx] at hy;injection hy with hy;subst hy;rw[hc] at hc';injection hc' with hc';subst hc';exact .refl _
theorem cellC {l:List Cr}:∀x∈eCs l,∀c∈x.cells,c.isCell=true:=fun x hx c hc=>by
 obtain⟨y,_,rfl⟩:=List.mem_map.1 hx;simp only[eC,AV.cells,List.mem_cons,List.not_mem_nil,or_false] at hc;rcases hc with rfl|rfl|rfl|rfl|rfl|rfl|rfl|rfl|rfl|rfl<;>rfl
theorem zdV {l:List Bdg}:∀x∈yK l,∀c∈x.cells,c.isCell=true:=fun x hx c hc=>by
 obtain⟨y,_,rfl⟩:=List.mem_map.1 hx;simp only[eBd,AV.cells,List.mem_cons,List.not_mem_nil,or_false] at hc;rcases hc with rfl|rfl|rfl|rfl|rfl|rfl|rfl|rfl|rfl|rfl|rfl|rfl|rfl|rfl|rfl<;>rfl
theorem zeQ {l:List Alg}:∀x∈yY l,∀c∈x.cells,c.isCell=true:=fun x hx c hc=>by
 obtain⟨y,_,rfl⟩:=List.mem_map.1 hx;simp only[eAl,AV.cells,List.mem_cons,List.not_mem_nil,or_false] at hc;rcases hc with rfl|rfl|rfl|rfl|rfl|rfl|rfl|rfl|rfl|rfl|rfl|rfl|rfl|rfl<;>rfl
theorem cellS {l:List ByteArray}:∀x∈eSs l,∀c∈x.cells,c.isCell=true:=fun x hx c hc=>by
 obtain⟨y,_,rfl⟩:=List.mem_map.1 hx;simp[AV.cells] at hc;subst hc;rfl
theorem zeH {ls:List Alg} {vs:List VA} {j:Nat} {a:Alg} {v:VA} (ha:ls[j]? = some a) (hv:vs[j]? = some v):∀e∈blk v a.2.1.length (flR (eSs a.2.1) v.z),e∈hV ls vs:=fun e he=>by
 unfold hV;refine List.mem_flatten.2 ⟨_,?_,he⟩;exact List.mem_of_getElem? (i:=j) (by rw[List.getElem?_zipWith,ha,hv])
theorem AdOk.frz {ad:Ad} {x:Nd} (hok:AdOk ad x) {h:List (Nat×HO)} (hin:∀e∈hM ad x,e∈h):Frz h (.agg (zBJ ad x)) (eC x.cr):=by
 obtain⟨e0,e1,e2⟩:=z3W x;have h0:Frz h (slA ad.k x.ks.length) (.sl (eCs x.ks)):=zK2 hok.k (by simp[eCs]) (by simp[eCs]) (z0I _) (z0I _) cellC (fun e he=>hin e (by unfold hM;simp only[List.mem_append];exact .inl he)) zM6;have h1:Frz h (slA ad.b x.bs.length) (.sl (yK x.bs)):=zK2 hok.b (by simp[yK]) (by simp[yK]) (zF3 _) (zF3 _) zdV (fun e he=>hin e (by unfold hM;simp only[List.mem_append];exact .inr (.inl he))) zM6;have h2:Frz h (slA ad.a x.ls.length) (.sl (yY x.ls)):=by
  refine zK2 (M:=wR x.ls ad.vs) (L:=yY x.ls) hok.a (by simp[wR,hok.len]) (by simp[yY]) (zIL _ _) (zHW _) zeQ (fun e he=>hin e (by unfold hM;simp only[List.mem_append];exact .inr (.inr (.inl he)))) ?_;intro i p q hp hq j c c' hc hc';have hi:=(List.getElem?_eq_some_iff.1 hq).1;have hil:i<x.ls.length:=by simpa[yY] using hi
  have hiv:i<ad.vs.length:=by rw[hok.len];exact hil
  have ha:=List.getElem?_eq_getElem hil;have hv:=List.getElem?_eq_getElem hiv;have hg:=zJW ha hv;rw[hp] at hg;injection hg with hg;subst hg
  rw[zYU hil] at hq;injection hq with hq;subst hq
  have hvok:=hok.vs i _ _ ha hv;have hs:Frz h (slA ad.vs[i] x.ls[i].2.1.length) (.sl (eSs x.ls[i].2.1)):=zK2 hvok (by simp[eSs]) (by simp[eSs]) (yP _) (yP _) cellS (fun e he=>hin e (by unfold hM;simp only[List.mem_append];exact .inr (.inr (.inr (zeH ha hv e he))))) zM6;simp only[zW0,eAl,AV.cells] at hc hc'
  match j with
  | 3=>simp at hc hc';subst hc;subst hc';exact hs
  | 0|1|2|4|5|6|7|8|9|10|11|12|13=>simp at hc hc';subst hc;subst hc';exact .refl _
  | j+14=>simp at hc
 unfold eC;rw[e0,e1,e2];refine .agg _ _ rfl (fun c hc=>?_) fun j c c' hc hc'=>?_
 ·simp only[List.mem_cons,List.not_mem_nil,or_false] at hc;rcases hc with rfl|rfl|rfl|rfl|rfl|rfl|rfl|rfl|rfl|rfl<;>rfl
 ·simp only[zBJ] at hc
  match j with
  | 7=>simp at hc hc';subst hc;subst hc';exact h0
  | 8=>simp at hc hc';subst hc;subst hc';exact h1
  | 9=>simp at hc hc';subst hc;subst hc';exact h2
  | 0|1|2|3|4|5|6=>simp at hc hc';subst hc;subst hc';exact .refl _
  | j+10=>simp at hc
theorem z8X {c:Cr} {os:List Nat} {fv:Value} {args:List AV} (h:CallsG Tryz.prog fv [] args os fun r o h=>zMW c r o h):CallsG Tryz.prog fv [] args os fun r o h=>zeZ c r o h :=
 h.less0 fun r o h hp=>by
  obtain⟨rfl,ad,h1,rfl,rfl⟩:=hp;exact⟨hM ad (zA6 c),_,rfl,rfl,ad,h1,rfl,rfl⟩
def Cr.TyA:Cr->Prop
 | .nil=>True
 | .node _ _ _ t g=>TyS t/\g.TyA
 | .kid p r=>p.TyA/\r.TyA
 | .bind _ t p r=>TyS t/\p.TyA/\r.TyA
 | .alt _ _ _ _ p r=>p.TyA/\r.TyA
theorem Cr.TyA.kid {c p:Cr} (h:c.TyA) (hp:p∈c.kids):p.TyA:=by
 induction c with
 | nil=>cases hp
 | node f n s t g ih=>exact ih h.2 hp
 | kid q r _ ih=>rcases List.mem_cons.1 hp with rfl|hp;exact h.1;exact ih h.2 hp
 | bind x t q r _ ih=>exact ih h.2.2 hp
 | alt f n s vs q r _ ih=>exact ih h.2 hp
theorem Cr.TyA.bind {c:Cr} {b:Bdg} (h:c.TyA) (hp:b∈c.binds):TyS b.2.1/\b.2.2.TyA:=by
 induction c with
 | nil=>cases hp
 | node f n s t g ih=>exact ih h.2 hp
 | kid q r _ ih=>exact ih h.2 hp
 | bind x t q r _ ih=>rcases List.mem_cons.1 hp with rfl|hp;exact⟨h.1,h.2.1⟩;exact ih h.2.2 hp
 | alt f n s vs q r _ ih=>exact ih h.2 hp
theorem Cr.TyA.alt {c:Cr} {a:Alg} (h:c.TyA) (hp:a∈c.alts):a.2.2.TyA:=by
 induction c with
 | nil=>cases hp
 | node f n s t g ih=>exact ih h.2 hp
 | kid q r _ ih=>exact ih h.2 hp
 | bind x t q r _ ih=>exact ih h.2.2 hp
 | alt f n s vs q r _ ih=>rcases List.mem_cons.1 hp with rfl|hp;exact h.1;exact ih h.2 hp
theorem Cr.TyA.node {c:Cr} (h:c.TyA) (hn:c.isN=true):TyS c.t:=by cases c<;>first|(cases hn;done)|exact h.1
structure Gd (c:Cr):Prop where
 n:c.isN=true
 ok:c.Ok
 few:c.Few
 ty:c.TyA
theorem Gd.part {c d:Cr} (h:Gd c) {p:Pp} (hd:zOA (zA6 c) p=some d):Gd d/\d.sz<c.sz:=by
 cases p with
 | kid j =>
  have hm:d∈c.kids:=List.mem_of_getElem? hd;have:=zBF hm;rw[h.n] at this;exact⟨⟨(h.ok.kid hm).1,(h.ok.kid hm).2,h.few.kid hm,h.ty.kid hm⟩,by simp at this;omega⟩
 | bind j =>
  have hd:(c.binds[j]?).map (·.2.2)=some d:=hd;cases hb:c.binds[j]? with
  | none=>rw[hb] at hd;cases hd
  | some b =>
   rw[hb] at hd;simp at hd;subst hd;have hm:=List.mem_of_getElem? hb;have:=zCF hm;rw[h.n] at this;exact⟨⟨(h.ok.bind hm).1,(h.ok.bind hm).2,h.few.bind hm,(h.ty.bind hm).2⟩,by simp at this;omega⟩
 | alt j =>
  have hd:(c.alts[j]?).map (·.2.2)=some d:=hd;cases hb:c.alts[j]? with
  | none=>rw[hb] at hd;cases hd
  | some b =>
   rw[hb] at hd;simp at hd;subst hd;have hm:=List.mem_of_getElem? hb;have:=zEH hm;rw[h.n] at this;exact⟨⟨(h.ok.alt hm).1,(h.ok.alt hm).2.1,(h.few.alt hm).1,h.ty.alt hm⟩,by simp at this;omega⟩
theorem zS6 {c:Cr} (h:Gd c) (hc:CallsG Tryz.prog (fnv wH) [] [eC c] [] fun r o h=>zMW c r o h):zF Tryz.prog wH [eC c] (eC c):=by
 refine (z8X hc).pure fun r o hp hpo=>?_;obtain⟨rfl,ad,h1,rfl,rfl⟩:=hpo;have:=h1.frz (h:=hM ad (zA6 c)) fun e he=>he;rw[zdT h.n h.ok] at this;exact⟨this,rfl⟩
theorem z97 (N:Nat) (hn:N<90000):∀c:Cr,Gd c->c.sz<=N->CallsG Tryz.prog (fnv wH) [] [eC c] [] fun r o h=>zMW c r o h:=by
 induction N with
 | zero=>intro c hg hs;have:=zAY hg.n;omega
 | succ N ih =>
  intro c hg hs;refine z2H c hg.n hg.ok hg.few (by omega) (hg.ty.node hg.n) (fun b hb=>(hg.ty.bind hb).1) fun p d hd=>?_;have:=hg.part hd;exact zS6 this.1 (ih (by omega) d this.1 (by omega))
theorem zU5 {c:Cr} (h:Gd c) (hs:c.sz<90000):zF Tryz.prog wH [eC c] (eC c):=zS6 h (z97 c.sz hs c h (Nat.le_refl _))
deriving instance DecidableEq for Pp
deriving instance DecidableEq for Pn
abbrev str (s:ByteArray):AV := .lit (.string s)
theorem z5K (s:ByteArray):zF Tryz.prog zW7 [str s] (eC (vr s)):=by
 refine zG ttok mixed Tryz.func25 rfl (by rfl) (Nat.le_of_ble_eq_true rfl) (by kernel_rfl) ?_;exact rfl
set_option linter.unusedSimpArgs false
def Cr.wt:Cr->Nat
 | .nil=>0
 | .node _ _ _ t g=>1+t.sz+g.wt
 | .kid p r=>p.wt+r.wt
 | .bind _ t p r=>1+t.sz+p.wt+r.wt
 | .alt _ _ _ vs p r=>1+vs.length+p.wt+r.wt
def Cr.LowC (K:Nat):Cr->Prop
 | .nil=>True
 | .node _ _ _ t g=>zGG K t/\g.LowC K
 | .kid p r=>p.LowC K/\r.LowC K
 | .bind _ t p r=>zGG K t/\p.LowC K/\r.LowC K
 | .alt _ _ _ _ p r=>p.LowC K/\r.LowC K
structure Sm (c:Cr):Prop where
 n:c.isN=true
 ok:c.Ok
 wt:c.wt<=590
 low:c.LowC 2000
theorem z7G (c:Cr):c.sz<=c.wt:=by
 induction c with
 | nil=>simp[Cr.sz]
 | node f n s t g ih=>simp only[Cr.sz,Cr.wt];omega
 | kid p r ihp ihr=>simp only[Cr.sz,Cr.wt];omega
 | bind x t p r ihp ihr=>simp only[Cr.sz,Cr.wt];omega
 | alt f n s vs p r ihp ihr=>simp only[Cr.sz,Cr.wt];omega
theorem z7C (c:Cr):c.tn<=c.wt:=by
 induction c with
 | nil=>simp[Cr.tn]
 | node f n s t g ih=>simp only[Cr.tn,Cr.wt];omega
 | kid p r ihp ihr=>simp only[Cr.tn,Cr.wt];omega
 | bind x t p r ihp ihr=>simp only[Cr.tn,Cr.wt];omega
 | alt f n s vs p r ihp ihr=>simp only[Cr.tn,Cr.wt];omega
theorem zcR (c:Cr):c.wt<=10000->c.Few:=by
 induction c with
 | nil=>intro _;trivial
 | node f n s t g ih=>intro h;simp only[Cr.wt] at h;exact ih (by omega)
 | kid p r ihp ihr=>intro h;simp only[Cr.wt] at h;exact⟨ihp (by omega),ihr (by omega)⟩
 | bind x t p r ihp ihr=>intro h;simp only[Cr.wt] at h;exact⟨ihp (by omega),ihr (by omega)⟩
 | alt f n s vs p r ihp ihr=>intro h;simp only[Cr.wt] at h;exact⟨by omega,ihp (by omega),ihr (by omega)⟩
theorem zP4 {K:Nat} {c p:Cr} (hp:p∈c.kids):p.wt<=c.wt/\(c.LowC K->p.LowC K):=by
 induction c with
 | nil=>cases hp
 | node f n s t g ih=>have:=ih hp;exact⟨by simp only[Cr.wt];omega,fun h=>this.2 h.2⟩
 | kid q r _ ih =>
  simp only[Cr.wt];rcases List.mem_cons.1 hp with rfl|hp
  ·exact⟨by omega,fun h=>h.1⟩
  ·have:=ih hp;exact⟨by omega,fun h=>this.2 h.2⟩
 | bind x t q r _ ih=>have:=ih hp;exact⟨by simp only[Cr.wt];omega,fun h=>this.2 h.2.2⟩
 | alt f n s vs q r _ ih=>have:=ih hp;exact⟨by simp only[Cr.wt];omega,fun h=>this.2 h.2⟩
theorem zXQ {K:Nat} {c:Cr} {b:Bdg} (hp:b∈c.binds):1+b.2.1.sz+b.2.2.wt<=c.wt/\(c.LowC K->zGG K b.2.1/\b.2.2.LowC K):=by
 induction c with
 | nil=>cases hp
 | node f n s t g ih=>have:=ih hp;exact⟨by simp only[Cr.wt];omega,fun h=>this.2 h.2⟩
 | kid q r _ ih=>have:=ih hp;exact⟨by simp only[Cr.wt];omega,fun h=>this.2 h.2⟩
 | bind x t q r _ ih =>
  simp only[Cr.wt];rcases List.mem_cons.1 hp with rfl|hp
  ·exact⟨by simp only;omega,fun h=>⟨h.1,h.2.1⟩⟩
  ·have:=ih hp;exact⟨by omega,fun h=>this.2 h.2.2⟩
 | alt f n s vs q r _ ih=>have:=ih hp;exact⟨by simp only[Cr.wt];omega,fun h=>this.2 h.2⟩
theorem zVI {K:Nat} {c:Cr} {a:Alg} (hp:a∈c.alts):1+a.2.1.length+a.2.2.wt<=c.wt/\(c.LowC K->a.2.2.LowC K):=by
 induction c with
 | nil=>cases hp
 | node f n s t g ih=>have:=ih hp;exact⟨by simp only[Cr.wt];omega,fun h=>this.2 h.2⟩
 | kid q r _ ih=>have:=ih hp;exact⟨by simp only[Cr.wt];omega,fun h=>this.2 h.2⟩
 | bind x t q r _ ih=>have:=ih hp;exact⟨by simp only[Cr.wt];omega,fun h=>this.2 h.2.2⟩
 | alt f n s vs q r _ ih =>
  simp only[Cr.wt];rcases List.mem_cons.1 hp with rfl|hp
  ·exact⟨by simp only;omega,fun h=>h.1⟩
  ·have:=ih hp;exact⟨by omega,fun h=>this.2 h.2⟩
section
variable {φ:Cr->Cr} {τ:Tp->Tp} {ν:ByteArray->ByteArray} {α:List ByteArray->Cr->List ByteArray×Cr}
end
end Go.Proofs.YtdmbahepaglcbaaGreatDoor
