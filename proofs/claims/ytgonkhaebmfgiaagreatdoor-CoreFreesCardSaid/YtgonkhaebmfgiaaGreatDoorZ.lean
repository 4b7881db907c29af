/- Core without names, as a text: the document's Nameless. No condition but on sizes. -/
import Derived.Test.YtgonkhaebmfgiaaGreatDoorY
import Derived.Test.YtgonkhaebmfgiaaGreatDoorO
set_option linter.unusedSimpArgs false
set_option linter.unusedVariables false
namespace Go.Proofs.YtgonkhaebmfgiaaGreatDoor
open Go Fp
set_option maxRecDepth 10000
set_option maxHeartbeats 16000000
set_option linter.unusedVariables false
structure Na (c:Cr):Prop where
 n:c.isN=true
 ok:c.Ok
 few:c.Few
 sz:c.sz<900000
 nc:c.Nc
 tz:c.TZ
abbrev zCF (c:Cr) (x y:List ByteArray):Prop:=zC Tryz.prog 93 [eC c,.sl (eSs x),.sl (eSs y)] (str (bs (zW (dbc c x.reverse y.reverse))))
abbrev z9N (N:Nat):Prop := ∀(p:Cr) (x y:List ByteArray),Na p->p.sz<=N->x.length+y.length+dpC p<=4000000->(zW (dbc p x.reverse y.reverse)).length<=1000000000000000000->zCF p x y
theorem zX0 (t:Tp):t.form=0↔t = .no:=by cases t<;>simp[Tp.form]
theorem strsz (a b:ByteArray):(a++b).size=a.size+b.size:=ByteArray.size_append
theorem z4R (N:Nat) (f n:Int) (s:ByteArray) (t:Tp) (g:Cr) (x y:List ByteArray) (hc:Na (.node f n s t g)) (hN:(Cr.node f n s t g).sz<=N+1) (hle:x.length+y.length+dpC (.node f n s t g)<=4000000)
  (hlen:(zW (dbc (.node f n s t g) x.reverse y.reverse)).length<=1000000000000000000) (ih:z9N N):zCF (.node f n s t g) x y:=by
 obtain⟨hgn,hgo⟩:=zO hc.ok;have hl:=xA _ hc.ok;have hsz:=hc.sz;have hgs:(Cr.node f n s t g).sz=1+g.sz:=rfl;have hlk:(Cr.node f n s t g).kids=g.kids:=rfl;have hlb:(Cr.node f n s t g).binds=g.binds:=rfl;have hla:(Cr.node f n s t g).alts=g.alts:=rfl;rw[hlk,hlb,hla] at hl;obtain⟨hf0,hn0,htn,hgc⟩:=hc.nc;have hfd:=zP6 (n:=f) (by omega) (by omega);have hnd:=zP6 (n:=n) (by omega) (by omega);have hfl:(dci f).size<=7:=zCB (by omega) (by omega);have hnl:(dci n).size<=7:=zCB (by omega) (by omega);show zC Tryz.prog 93 [eC (.node f n s t g),.sl (eSs x),.sl (eSs y)] _;obtain⟨H1,hH1⟩:∃H,H=((((⟨#[40]⟩++dci f)++⟨#[32]⟩)++dci n)++⟨#[32]⟩:ByteArray):=⟨_,rfl⟩
 have hH1s:H1.size<=20:=by rw[hH1];simp only[strsz,sz1];omega
 have hH1b:by' H1=40::(by' (dci f)++32::(by' (dci n)++[32])):=by rw[hH1];simp only[xJ];simp[by']
 have fin1:Wsem Tryz.prog (y7 (y7 (bodyC Tryz.f93))) (mkC {vs:=[(1,.v (.sl (eSs x))),(2,.v (.sl (eSs y))),(3,.box 0 (eC (.node f n s t g))),(7,.v (str H1))]})
   (fun c2=>jM tt Tryz.f93.results.toList (str (bs (zW (dbc (.node f n s t g) x.reverse y.reverse)))) (den c2)) (fun _ _=>False) (fun c2=>jM tt Tryz.f93.results.toList (str (bs (zW (dbc (.node f n s t g) x.reverse y.reverse)))) (den c2)):=by
  by_cases h1:f=1
  ·subst h1;have hn1:n=0:=hn0.2.2 rfl;subst hn1;have hp:=zaS s x y.reverse 0 t g;have hps:(plc s x).size+10<=1000000000000000100:=by
    rw[hp] at hlen;simp only[List.length_cons,List.length_append,List.length_nil] at hlen;have:(by' (plc s x)).length=(plc s x).size:=rfl;omega
   have hpl:=zZD s x (by omega) (by
    rw[hp] at hlen;simp only[List.length_cons,List.length_append,List.length_nil] at hlen;have:(by' (plc s x)).length=(plc s x).size:=rfl;omega)
   have hres:bs (zW (dbc (.node 1 0 s t g) x.reverse y.reverse))=(H1++plc s x)++⟨#[41]⟩:=by
    rw[hp];refine jO ?_;rw[zEL,xJ,xJ,hH1b];simp[by']
   rw[hres];refine Wsem.seqS (Wsem.seq ttok mixed ?_);refine Wsem.cond rfl (fun _=>?_) (fun h=>absurd h (by simp[Cr.f]));refine Wsem.of ttok mixed ?_;refine .inl ⟨_,hpl,?_⟩;refine⟨by omega,?_⟩;refine⟨by rw[strsz,sz1];omega,?_⟩;exact rfl
  have hself:dbc (.node f n s t g) x.reverse y.reverse = .node f n (if f=5∨f=7 then .empty else s) (db t (if f=7 then s::y.reverse else y.reverse)) (dbc g ((Cr.node f n s t g).names0.reverse++x.reverse) (if f=7 then s::y.reverse else y.reverse)):=by
   simp only[dbc];rw[if_neg h1]
  obtain⟨D,hD⟩:∃D,D=(if f=7 then s::y.reverse else y.reverse):=⟨_,rfl⟩
  obtain⟨E,hE⟩:∃E,E=(Cr.node f n s t g).names0.reverse++x.reverse:=⟨_,rfl⟩
  obtain⟨s',hs'⟩:∃s':ByteArray,s'=(if f=5∨f=7 then .empty else s):=⟨_,rfl⟩
  rw[<-hs',<-hD,<-hE] at hself;have hflat:=zYB E D g hgn hgo;obtain⟨TK,hTK⟩:∃T,T=g.kids.flatMap (tK E D):=⟨_,rfl⟩
  obtain⟨TB,hTB⟩:∃T,T=g.binds.flatMap (zGT E D):=⟨_,rfl⟩
  obtain⟨TA,hTA⟩:∃T,T=g.alts.flatMap (zKI E D):=⟨_,rfl⟩
  rw[<-hTK,<-hTB,<-hTA] at hflat;rw[hself] at hlen⊢;have hser:zW (.node f n s' (db t D) (dbc g E D))=by' H1++(by' s'++(zCV (db t D)++((TK++(TB++TA))++[41]))):=by
   simp only[zW];rw[hflat,hH1b];simp
  rw[hser] at hlen⊢;simp only[List.length_append,List.length_cons,List.length_nil] at hlen;have hs's:(by' s').length=s'.size:=rfl;have hEl:E.length<=x.length+(if f=5∨f=7 then 1 else 0)+g.binds.length:=by
   rw[hE,List.length_append,List.length_reverse,List.length_reverse];show ((if f=5 then [s] else [])++g.binds.map (·.1)).length+_<=_;rw[List.length_append,List.length_map];by_cases h5:f=5
   ·subst h5;simp;omega
   ·rw[if_neg h5];simp;omega
  have hDl:D.length+E.length<=x.length+y.length+(if f=5∨f=7 then 1 else 0)+g.binds.length:=by
   rw[hE,hD,List.length_append,List.length_reverse,List.length_reverse];show _+(((if f=5 then [s] else [])++g.binds.map (·.1)).length+_)<=_;rw[List.length_append,List.length_map];by_cases h5:f=5
   ·subst h5;simp;omega
   ·by_cases h7:f=7
    ·subst h7;simp;omega
    ·rw[if_neg h5,if_neg h7,if_neg (fun h=>h.elim h5 h7)];simp;omega
  simp only[dpC] at hle;have hown:(if f=5 then [s] else []:List ByteArray).length<=1:=by split<;>simp
  have hEr:E.reverse=x++(if f=5 then [s] else [])++g.binds.map (·.1):=by
   rw[hE,List.reverse_append,List.reverse_reverse,List.reverse_reverse,List.append_assoc];rfl
  have hDr:D.reverse=y++(if f=7 then [s] else []):=by
   rw[hD];split<;>simp
  generalize hown':(if f=5 then [s] else []:List ByteArray)=own at hown hEr;generalize htl':(if f=7 then [s] else []:List ByteArray)=tl at hDr;have htl:tl.length<=1:=by rw[<-htl'];split<;>simp
  have hkp:∀(k:Nat) (h:k<g.kids.length),zCF g.kids[k] E.reverse D.reverse:=fun k h=>by
   have hm:=List.getElem_mem h;have h2:=zEF (tK E D) h;rw[<-hTK] at h2;have h3:=zcC hgn hgo hm;have h4:=zBT (c := .node f n s t g) hm;have hz:∀p:Cr,(if (Cr.node f n s t g).isN=true then 1 else 0)=1:=fun _=>rfl;rw[hz g] at h4;have hs2:(tK E D g.kids[k]).length=(zW (dbc g.kids[k] E D)).length:=rfl;refine ih _ _ _ ⟨(hgo.kid hm).1,(hgo.kid hm).2,(hc.few.kid (c := .node f n s t g) hm),by omega,zbU hm hgc,(zM9 g hc.tz.2).1 _ hm⟩ (by omega) (by rw[List.length_reverse,List.length_reverse];omega) (by rw[List.reverse_reverse,List.reverse_reverse];omega)
  have hbp:∀(k:Nat) (h:k<g.binds.length),zCF g.binds[k].2.2 E.reverse D.reverse:=fun k h=>by
   have hm:=List.getElem_mem h;have h2:=zEF (zGT E D) h;rw[<-hTB] at h2;have h3:=z6F hgn hgo hm;have h4:=jS (c := .node f n s t g) hm;have hz:∀p:Cr,(if (Cr.node f n s t g).isN=true then 1 else 0)=1:=fun _=>rfl;rw[hz g] at h4;have hs2:(zGT E D g.binds[k]).length=1+((ser (db g.binds[k].2.1 D)).length+(zW (dbc g.binds[k].2.2 E D)).length):=by simp[zGT];omega
   refine ih _ _ _ ⟨(hgo.bind hm).1,(hgo.bind hm).2,(hc.few.bind (c := .node f n s t g) hm),by omega,(zX3 hm hgc).2,(zWO hm hc.tz.2).2⟩ (by omega) (by rw[List.length_reverse,List.length_reverse];omega) (by rw[List.reverse_reverse,List.reverse_reverse];omega)
  have hbt:∀(k:Nat) (h:k<g.binds.length),¬g.binds[k].2.1.form=0/\(ser (db g.binds[k].2.1 D)).length<=1000000000000000000/\zC Tryz.prog zAB [eTy g.binds[k].2.1,.sl (eSs D.reverse)] (str (bs (ser (db g.binds[k].2.1 D)))):=fun k h=>by
   have hm:=List.getElem_mem h;have h2:=zEF (zGT E D) h;rw[<-hTB] at h2;have hs2:(zGT E D g.binds[k]).length=1+((ser (db g.binds[k].2.1 D)).length+(zW (dbc g.binds[k].2.2 E D)).length):=by simp[zGT];omega
   have hnm:=(zX3 hm hgc).1;have htz:=(zWO hm hc.tz.2).1;have e:=z9Y g.binds[k].2.1 D.reverse;rw[List.reverse_reverse] at e;have:=zHZ g.binds[k].2.1 D.reverse hnm (by rw[List.length_reverse];omega) (by rw[e,x8];omega);rw[e] at this;exact⟨fun h=>by rw[zX0] at h;rw[h] at hnm;exact hnm,by omega,this⟩
  have hap:∀(k:Nat) (h:k<g.alts.length),((1<=g.alts[k].1.1/\g.alts[k].1.1<=3)/\(0<=g.alts[k].1.2.1/\g.alts[k].1.2.1<100))/\g.alts[k].2.1.length<=10000/\zCF g.alts[k].2.2 (E.reverse++g.alts[k].2.1) D.reverse:=fun k h=>by
   have hm:=List.getElem_mem h;have h2:=zEF (zKI E D) h;rw[<-hTA] at h2;have h3:=zaH hgn hgo hm;have h4:=zBX (c := .node f n s t g) hm;have hz:∀p:Cr,(if (Cr.node f n s t g).isN=true then 1 else 0)=1:=fun _=>rfl;rw[hz g] at h4;have hs2:(zW (dbc g.alts[k].2.2 (g.alts[k].2.1.reverse++E) D)).length<=(zKI E D g.alts[k]).length:=by simp[zKI];omega
   refine⟨⟨(zVW hm hgc).1,(zVW hm hgc).2.1⟩,(hc.few.alt (c := .node f n s t g) hm).2,ih _ _ _ ⟨(hgo.alt hm).1,(hgo.alt hm).2.1,(hc.few.alt (c := .node f n s t g) hm).1,by omega,(zVW hm hgc).2.2,(zM9 g hc.tz.2).2.2 _ hm⟩ (by omega) (by rw[List.length_append,List.length_reverse,List.length_reverse];omega) (by rw[List.reverse_append,List.reverse_reverse,List.reverse_reverse];omega)⟩
  have hkp':∀(k:Nat) (h:k<g.kids.length),zC Tryz.prog 93 [eC g.kids[k],.sl (eSs E.reverse),.sl (eSs D.reverse)] (str (bs (tK E D g.kids[k]))):=fun k h=>by
   have:=hkp k h;rw[zCF,List.reverse_reverse,List.reverse_reverse] at this;exact this
  have hbp':∀(k:Nat) (h:k<g.binds.length),zC Tryz.prog 93 [eC g.binds[k].2.2,.sl (eSs E.reverse),.sl (eSs D.reverse)] (str (bs (zW (dbc g.binds[k].2.2 E D)))):=fun k h=>by
   have:=hbp k h;rw[zCF,List.reverse_reverse,List.reverse_reverse] at this;exact this
  have hap':∀(k:Nat) (h:k<g.alts.length),zC Tryz.prog 93 [eC g.alts[k].2.2,.sl (eSs E.reverse++eSs g.alts[k].2.1),.sl (eSs D.reverse)] (str (bs (zW (dbc g.alts[k].2.2 (g.alts[k].2.1.reverse++E) D)))):=fun k h=>by
   have:=(hap k h).2.2;rw[zCF,List.reverse_append,List.reverse_reverse,List.reverse_reverse,show eSs (E.reverse++g.alts[k].2.1)=eSs E.reverse++eSs g.alts[k].2.1 by simp[eSs]] at this;exact this
  clear hkp hbp;obtain⟨HB,hHB⟩:∃H,H=by' H1++(by' s'++zCV (db t D)):=⟨_,rfl⟩
  have hHBl:HB.length+(TK.length+(TB.length+TA.length))+1<=1000000000000000000:=by rw[hHB];simp only[List.length_append];omega
  have hfin:by' H1++(by' s'++(zCV (db t D)++((TK++(TB++TA))++[41])))=HB++TK++TB++TA++[41]:=by rw[hHB];simp only[List.append_assoc]
  rw[hfin];have hErl:E.reverse.length=E.length:=List.length_reverse ..;have hDrl:D.reverse.length=D.length:=List.length_reverse ..;have tail12:Wsem Tryz.prog (y7 (y7 (y7 (y7 (y7 (y7 (y7 (y7 (y7 (y7 (y7 (bodyC Tryz.f93)))))))))))) (mkC {vs:=[(3,.box 0 (eC (.node f n s t g))),(7,.v (str (bs HB))),(8,.v (.sl (eSs (x++own)))),(9,.v (.sl (eSs D.reverse)))],ow:=[(8,0,2)]})
    (fun c2=>jM tt Tryz.f93.results.toList (str (bs (HB++TK++TB++TA++[41]))) (den c2)) (fun _ _=>False) (fun c2=>jM tt Tryz.f93.results.toList (str (bs (HB++TK++TB++TA++[41]))) (den c2)):=by
   refine Wsem.seq ttok mixed ?_;refine⟨{k:Nat // k<=g.binds.length},fun k=>{vs:=[(3,.box 0 (eC (.node f n s t g))),(7,.v (str (bs HB))),(8,.v (.sl (eSs (x++own++(g.binds.take k.1).map (·.1))))),(9,.v (.sl (eSs D.reverse))),(10,sv (k.1:Nat))],ow:=[(8,0,2)]},
    fun k=>g.binds.length-k.1,⟨0,Nat.zero_le _⟩,⟨⟨rfl,rfl,congrArg (fun l=>SV.v (AV.sl l)) (by simp),rfl,rfl,trivial⟩,⟨rfl,trivial⟩,rfl⟩,?_⟩
   rintro⟨k,hk⟩;refine⟨fun h=>?_,fun h=>?_⟩
   ·have h:k<g.binds.length:=by have h:=of_decide_eq_true h;rw[zEE,hlb] at h;simp only at h;omega
    refine⟨_,by omega,zEG (c := .node f n s t g) h,rfl,?_⟩;refine⟨by rw[qA];simp only[List.length_append,List.length_map,List.length_take,List.length_cons,List.length_nil];omega,yI _,wC rfl,?_⟩;refine⟨⟨k+1,h⟩,by simp;omega,⟨rfl,rfl,?_,rfl,svc (wrap_succ (k:=k) (by omega)),trivial⟩,⟨rfl,trivial⟩,rfl⟩;show SV.v (AV.sl (eSs (x++own++(g.binds.take k).map (·.1))++[str g.binds[k].1]))=SV.v (AV.sl (eSs (x++own++(g.binds.take (k+1)).map (·.1))));rw[zV4 (f:=fun b:Bdg=>b.1) h,<-List.append_assoc];simp[eSs]
   have h:k=g.binds.length:=by have h:=of_decide_eq_false h;rw[zEE,hlb] at h;simp only at h;omega
   subst h;refine Wsem.cut {vs:=[(3,.box 0 (eC (.node f n s t g))),(7,.v (str (bs HB))),(8,.v (.sl (eSs E.reverse))),(9,.v (.sl (eSs D.reverse)))]} ⟨⟨rfl,rfl,by rw[List.take_length,hEr];rfl,rfl,trivial⟩,trivial,rfl⟩ ?_;refine Wsem.seq ttok mixed ?_;refine⟨{k:Nat // k<=g.kids.length},fun k=>{vs:=[(3,.box 0 (eC (.node f n s t g))),(7,.v (str (bs (HB++(g.kids.take k.1).flatMap (tK E D))))),(8,.v (.sl (eSs E.reverse))),(9,.v (.sl (eSs D.reverse))),(11,sv (k.1:Nat))]},
    fun k=>g.kids.length-k.1,⟨0,Nat.zero_le _⟩,⟨⟨rfl,congrArg (fun b=>SV.v (str (bs b))) (by simp),rfl,rfl,rfl,trivial⟩,trivial,rfl⟩,?_⟩
   rintro⟨k,hk⟩;refine⟨fun h=>?_,fun h=>?_⟩
   ·have h:k<g.kids.length:=by have h:=of_decide_eq_true h;rw[zGW,hlk] at h;simp only at h;omega
    have hin:=zEF (tK E D) h;rw[<-hTK] at hin;have hgc0:((Cr.node f n s t g).e3 0)[k]? = some (eC g.kids[k]):=zJ7 (c := .node f n s t g) h;refine⟨_,by omega,hgc0,rfl,?_⟩;refine .inl ⟨_,hkp' k h,?_⟩;refine⟨by simp only[x8,List.length_append];omega,?_⟩;refine⟨⟨k+1,h⟩,by simp;omega,⟨rfl,?_,rfl,rfl,svc (wrap_succ (k:=k) (by omega)),trivial⟩,trivial,rfl⟩;refine congrArg (fun b=>SV.v (str b)) ?_;show bs _++bs _=bs _;rw[z3T,zJN (tK E D) h,List.append_assoc]
   have h:k=g.kids.length:=by have h:=of_decide_eq_false h;rw[zGW,hlk] at h;simp only at h;omega
   subst h;refine Wsem.cut {vs:=[(3,.box 0 (eC (.node f n s t g))),(7,.v (str (bs (HB++TK)))),(8,.v (.sl (eSs E.reverse))),(9,.v (.sl (eSs D.reverse)))]} ⟨⟨rfl,by rw[List.take_length,hTK];rfl,rfl,rfl,trivial⟩,trivial,rfl⟩ ?_;refine Wsem.seq ttok mixed ?_;refine⟨{k:Nat // k<=g.binds.length},fun k=>{vs:=[(3,.box 0 (eC (.node f n s t g))),(7,.v (str (bs (HB++TK++(g.binds.take k.1).flatMap (zGT E D))))),(8,.v (.sl (eSs E.reverse))),(9,.v (.sl (eSs D.reverse))),(12,sv (k.1:Nat))]},
    fun k=>g.binds.length-k.1,⟨0,Nat.zero_le _⟩,⟨⟨rfl,congrArg (fun b=>SV.v (str (bs b))) (by simp),rfl,rfl,rfl,trivial⟩,trivial,rfl⟩,?_⟩
   rintro⟨k,hk⟩;refine⟨fun h=>?_,fun h=>?_⟩
   ·have h:k<g.binds.length:=by have h:=of_decide_eq_true h;rw[zEE,hlb] at h;simp only at h;omega
    have hin:=zEF (zGT E D) h;rw[<-hTB] at hin;have hs2:(zGT E D g.binds[k]).length=1+((ser (db g.binds[k].2.1 D)).length+(zW (dbc g.binds[k].2.2 E D)).length):=by simp[zGT];omega
    obtain⟨hfo,_,hty⟩:=hbt k h;have hgb:((Cr.node f n s t g).e3 1)[k]? = some (eBd g.binds[k]):=zEG (c := .node f n s t g) h;refine⟨by rw[x8,sz1];simp only[List.length_append];omega,?_⟩;refine⟨_,by omega,hgb,rfl,?_⟩;refine⟨fun _=>?_,fun h2=>absurd h2 (by simpa using hfo)⟩;refine⟨_,by omega,hgb,rfl,?_⟩;refine .inl ⟨_,hty,?_⟩;refine⟨by simp only[strsz,x8,sz1,List.length_append];omega,?_⟩;refine⟨_,by omega,hgb,rfl,?_⟩;refine .inl ⟨_,hbp' k h,?_⟩;refine⟨by simp only[strsz,x8,sz1,List.length_append];omega,?_⟩;refine⟨⟨k+1,h⟩,by simp;omega,⟨rfl,?_,rfl,rfl,svc (wrap_succ (k:=k) (by omega)),trivial⟩,trivial,rfl⟩;refine congrArg (fun b=>SV.v (str b)) ?_;show ((bs _++⟨#[61]⟩)++bs _)++bs _=bs _;rw[zJN (zGT E D) h];exact jO (by simp only[xJ,zEL];simp[by',zGT])
   have h:k=g.binds.length:=by have h:=of_decide_eq_false h;rw[zEE,hlb] at h;simp only at h;omega
   subst h;refine Wsem.cut {vs:=[(3,.box 0 (eC (.node f n s t g))),(7,.v (str (bs (HB++TK++TB)))),(8,.v (.sl (eSs E.reverse))),(9,.v (.sl (eSs D.reverse)))]} ⟨⟨rfl,by rw[List.take_length,hTB];rfl,rfl,rfl,trivial⟩,trivial,rfl⟩ ?_;refine Wsem.seq ttok mixed ?_;refine⟨{k:Nat // k<=g.alts.length},fun k=>{vs:=[(3,.box 0 (eC (.node f n s t g))),(7,.v (str (bs (HB++TK++TB++(g.alts.take k.1).flatMap (zKI E D))))),(8,.v (.sl (eSs E.reverse))),(9,.v (.sl (eSs D.reverse))),(13,sv (k.1:Nat))]},
    fun k=>g.alts.length-k.1,⟨0,Nat.zero_le _⟩,⟨⟨rfl,congrArg (fun b=>SV.v (str (bs b))) (by simp),rfl,rfl,rfl,trivial⟩,trivial,rfl⟩,?_⟩
   rintro⟨k,hk⟩;refine⟨fun h=>?_,fun h=>?_⟩
   ·have h:k<g.alts.length:=by have h:=of_decide_eq_true h;rw[zIH,hla] at h;simp only at h;omega
    have hin:=zEF (zKI E D) h;rw[<-hTA] at hin;obtain⟨⟨hf3,hn3⟩,hvl,_⟩:=hap k h;have hcall:=hap' k h;have hup:=zJN (zKI E D) h;have hgl:=zGE (c := .node f n s t g) h;have e:(Cr.node f n s t g).alts[k]=g.alts[k]:=rfl;rw[e] at hgl;have hs2:(zKI E D g.alts[k]).length=1+((by' (dci g.alts[k].1.1)).length+(1+((by' (dci g.alts[k].1.2.1)).length+(1+((by' g.alts[k].1.2.2).length+(1+((by' (dcm g.alts[k].2.1.length)).length+(zW (dbc g.alts[k].2.2 (g.alts[k].2.1.reverse++E) D)).length))))))):=by simp[zKI];omega
    have ht2:zKI E D g.alts[k]=124::(by' (dci g.alts[k].1.1)++32::(by' (dci g.alts[k].1.2.1)++32::(by' g.alts[k].1.2.2++32::(by' (dcm g.alts[k].2.1.length)++zW (dbc g.alts[k].2.2 (g.alts[k].2.1.reverse++E) D))))):=rfl;rw[ht2] at hup;generalize g.alts[k]=a at hin hf3 hn3 hvl hcall hup hgl hs2;generalize zW (dbc a.2.2 (a.2.1.reverse++E) D)=B at hcall hup hs2;have d1:=zP6 (n:=a.1.1) (by omega) (by omega);have d2:=zP6 (n:=a.1.2.1) (by omega) (by omega);have d3:zC Tryz.prog 75 [.lit (.int .i64 (((eSs a.2.1).length:Nat):Int))] (.lit (.string (dcm a.2.1.length))):=by rw[qA];exact zAN 100000 _ (by omega) (by decide)
    have b1:(by' (dci a.1.1)).length=(dci a.1.1).size:=rfl;have b2:(by' (dci a.1.2.1)).length=(dci a.1.2.1).size:=rfl;have b3:(by' a.1.2.2).length=a.1.2.2.size:=rfl;have b4:(by' (dcm a.2.1.length)).length=(dcm a.2.1.length).size:=rfl;refine⟨_,by omega,hgl,rfl,?_⟩;refine⟨by simp only[strsz,x8,sz1,List.length_append];omega,?_⟩;refine .inl ⟨_,d1,?_⟩;refine⟨by simp only[strsz,x8,sz1,List.length_append];omega,?_⟩;refine⟨by simp only[strsz,x8,sz1,List.length_append];omega,?_⟩;refine .inl ⟨_,d2,?_⟩;refine⟨by simp only[strsz,x8,sz1,List.length_append];omega,?_⟩;refine⟨by simp only[strsz,x8,sz1,List.length_append];omega,?_⟩;refine⟨by simp only[strsz,x8,sz1,List.length_append];omega,?_⟩;refine⟨by simp only[strsz,x8,sz1,List.length_append];omega,?_⟩;refine .inl ⟨_,d3,?_⟩;refine⟨by simp only[strsz,x8,sz1,List.length_append];omega,?_⟩;refine⟨by kernel_rfl,?_⟩;refine⟨by rw[qA];simp only[List.length_nil];omega,zH5 1,yI _,?_⟩;refine⟨by show ([]++eSs E.reverse).length+(eSs a.2.1).length<=_;rw[List.nil_append,qA,qA];omega,yI _,yI _,?_⟩;refine .inl ⟨_,hcall,?_⟩;refine⟨by simp only[strsz,x8,sz1,List.length_append];omega,?_⟩;refine⟨by kernel_rfl,?_⟩;refine⟨⟨k+1,h⟩,by simp;omega,⟨rfl,?_,rfl,rfl,svc (wrap_succ (k:=k) (by omega)),trivial⟩,trivial,rfl⟩;refine congrArg (fun b=>SV.v (str b)) ?_;rw[hup];exact jO (by simp only[xJ,zEL];simp[by'])
   have h:k=g.alts.length:=by have h:=of_decide_eq_false h;rw[zIH,hla] at h;simp only at h;omega
   subst h;refine Wsem.of ttok mixed ?_;rw[List.take_length,<-hTA];refine⟨by rw[x8,sz1];simp only[List.length_append];omega,?_⟩;show AV.lit (Value.string (bs _++⟨#[41]⟩))=_;rw[show (⟨#[41]⟩:ByteArray)=bs [41] from rfl,z3T]
  have hfc:(Cr.node f n s t g).f=f:=rfl;have tail5:Wsem Tryz.prog (y7 (y7 (y7 (y7 (y7 (bodyC Tryz.f93)))))) (mkC {vs:=[(1,.v (.sl (eSs x))),(2,.v (.sl (eSs y))),(3,.box 0 (eC (.node f n s t g))),(7,.v (str (bs HB)))]})
    (fun c2=>jM tt Tryz.f93.results.toList (str (bs (HB++TK++TB++TA++[41]))) (den c2)) (fun _ _=>False) (fun c2=>jM tt Tryz.f93.results.toList (str (bs (HB++TK++TB++TA++[41]))) (den c2)):=by
   refine Wsem.seq ttok mixed ?_;refine Wsem.seq ttok mixed ?_;refine⟨by rw[qA];simp only[List.length_nil];omega,zH5 1,yI _,?_⟩;refine Wsem.seq ttok mixed ?_;refine Wsem.seq ttok mixed ?_;refine⟨by rw[qA];simp only[List.length_nil];omega,zH5 1,yI _,?_⟩;refine Wsem.cut {vs:=[(3,.box 0 (eC (.node f n s t g))),(7,.v (str (bs HB))),(8,.v (.sl (eSs x))),(9,.v (.sl (eSs y)))],ow:=[(8,0,2),(9,0,2)]} ⟨⟨rfl,rfl,rfl,rfl,trivial⟩,⟨rfl,rfl,trivial⟩,rfl⟩ ?_;by_cases h5:f=5
   ·have ho:own=[s]:=by rw[<-hown',if_pos h5]
    have ht:tl=[]:=by rw[<-htl',if_neg (by omega)]
    refine Wsem.seq ttok mixed ?_;refine⟨fun _=>?_,fun h=>absurd h (by simp[Cr.f,h5])⟩;refine⟨by rw[qA];simp only[List.length_cons,List.length_nil];omega,yI _,wC rfl,?_⟩;refine Wsem.seq ttok mixed ?_;refine⟨fun h=>absurd h (by simp[Cr.f,h5]),fun _=>?_⟩;refine Wsem.cut _ ?_ tail12;refine⟨⟨rfl,rfl,?_,?_,trivial⟩,⟨rfl,trivial⟩,rfl⟩
    ·show SV.v (AV.sl (eSs x++[str s]))=SV.v (AV.sl (eSs (x++own)));rw[ho];simp[eSs]
    ·show SV.v (AV.sl (eSs y))=SV.v (AV.sl (eSs D.reverse));rw[hDr,ht,List.append_nil]
   have ho:own=[]:=by rw[<-hown',if_neg h5]
   refine Wsem.seq ttok mixed ?_;refine⟨fun h=>absurd h (by simp[Cr.f,h5]),fun _=>?_⟩;by_cases h7:f=7
   ·have ht:tl=[s]:=by rw[<-htl',if_pos h7]
    refine Wsem.seq ttok mixed ?_;refine⟨fun _=>?_,fun h=>absurd h (by simp[Cr.f,h7])⟩;refine⟨by rw[qA];simp only[List.length_cons,List.length_nil];omega,yI _,wC rfl,?_⟩;refine Wsem.cut _ ?_ tail12;refine⟨⟨rfl,rfl,?_,?_,trivial⟩,⟨rfl,trivial⟩,rfl⟩
    ·show SV.v (AV.sl (eSs x))=SV.v (AV.sl (eSs (x++own)));rw[ho,List.append_nil]
    ·show SV.v (AV.sl (eSs y++[str s]))=SV.v (AV.sl (eSs D.reverse));rw[hDr,ht];simp[eSs]
   have ht:tl=[]:=by rw[<-htl',if_neg h7]
   refine Wsem.seq ttok mixed ?_;refine⟨fun h=>absurd h (by simp[Cr.f,h7]),fun _=>?_⟩;refine Wsem.cut _ ?_ tail12;refine⟨⟨rfl,rfl,?_,?_,trivial⟩,⟨rfl,trivial⟩,rfl⟩
   ·show SV.v (AV.sl (eSs x))=SV.v (AV.sl (eSs (x++own)));rw[ho,List.append_nil]
   ·show SV.v (AV.sl (eSs y))=SV.v (AV.sl (eSs D.reverse));rw[hDr,ht,List.append_nil]
  have hH1s':(by' H1).length=H1.size:=rfl;have tail4:Wsem Tryz.prog (y7 (y7 (y7 (y7 (bodyC Tryz.f93))))) (mkC {vs:=[(1,.v (.sl (eSs x))),(2,.v (.sl (eSs y))),(3,.box 0 (eC (.node f n s t g))),(7,.v (str (H1++s')))]})
    (fun c2=>jM tt Tryz.f93.results.toList (str (bs (HB++TK++TB++TA++[41]))) (den c2)) (fun _ _=>False) (fun c2=>jM tt Tryz.f93.results.toList (str (bs (HB++TK++TB++TA++[41]))) (den c2)):=by
   have hty:((Cr.node f n s t g).t).form=t.form:=rfl;by_cases h0:t = .no
   ·refine Wsem.seq ttok mixed ?_;refine⟨fun h=>absurd h (by simp[Cr.t,h0,Tp.form]),fun _=>?_⟩;refine Wsem.cut _ ?_ tail5;refine⟨⟨rfl,rfl,rfl,?_,trivial⟩,trivial,rfl⟩;refine congrArg (fun b=>SV.v (str b)) ?_;rw[hHB,h0];exact jO (by rw[zEL,xJ];simp[db,zCV])
   have h7:f≠7:=fun h=>h0 (hc.ok.2.2.1 h);have hDy:D=y.reverse:=by rw[hD,if_neg h7]
   have hnm:Nm t:=htn.resolve_left h0;have e:=z9Y t y;rw[<-hDy] at e;have hTz:t.sz<900000:=hc.tz.1;have hTs:zCV (db t D)=58::ser (db t D):=by
    cases t<;>first|exact absurd rfl h0|exact hnm.elim|skip
    all_goals (simp only[db];first|rfl|(split<;>rfl))
   have hTl:(ser (db t D)).length+1=(zCV (db t D)).length:=by rw[hTs];simp
   have hcall:=zHZ t y hnm (by omega) (by rw[e,x8];omega);rw[e] at hcall;refine Wsem.seq ttok mixed ?_;refine⟨fun _=>?_,fun h=>absurd h (by simpa[Cr.t,zX0] using h0)⟩;refine⟨by simp only[strsz,sz1];omega,?_⟩;refine .inl ⟨_,hcall,?_⟩;refine⟨by simp only[strsz,sz1,x8];omega,?_⟩;refine Wsem.cut _ ?_ tail5;refine⟨⟨rfl,rfl,rfl,?_,trivial⟩,trivial,rfl⟩;refine congrArg (fun b=>SV.v (str b)) ?_;rw[hHB,hTs];exact jO (by simp only[zEL,xJ];simp[by'])
  refine Wsem.seqS (Wsem.seq ttok mixed ?_);refine Wsem.cond rfl (fun h=>absurd h (by simp[Cr.f,h1])) (fun _=>?_);refine Wsem.of ttok mixed ?_;refine Wsem.cut {vs:=[(1,.v (.sl (eSs x))),(2,.v (.sl (eSs y))),(3,.box 0 (eC (.node f n s t g))),(7,.v (str H1))]} ⟨⟨rfl,rfl,rfl,rfl,trivial⟩,trivial,rfl⟩ ?_;have hs'0:s'=if f=5∨f=7 then .empty else s:=hs'
  have hemp:∀b:ByteArray,b++.empty=b:=fun b=>jO (by rw[xJ];simp[by']);by_cases h5:f=5
  ·refine Wsem.seq ttok mixed ?_;refine⟨fun h=>absurd h (by simp[Cr.f,h5]),fun _=>?_⟩;refine Wsem.cut _ ?_ tail4;refine⟨⟨rfl,rfl,rfl,?_,trivial⟩,trivial,rfl⟩;rw[hs'0,if_pos (.inl h5),hemp];rfl
  by_cases h7:f=7
  ·refine Wsem.seq ttok mixed ?_;refine⟨fun _=>?_,fun h=>absurd h (by simp[Cr.f,h5])⟩;refine⟨fun h=>absurd h (by simp[Cr.f,h7]),fun _=>?_⟩;refine Wsem.cut _ ?_ tail4;refine⟨⟨rfl,rfl,rfl,?_,trivial⟩,trivial,rfl⟩;rw[hs'0,if_pos (.inr h7),hemp];rfl
  ·have hs2:s'=s:=by rw[hs'0,if_neg (fun h=>h.elim h5 h7)]
   have hs3:(by' s').length=s.size:=by rw[hs2];rfl
   refine Wsem.seq ttok mixed ?_;refine⟨fun _=>?_,fun h=>absurd h (by simp[Cr.f,h5])⟩;refine⟨fun _=>?_,fun h=>absurd h (by simp[Cr.f,h7])⟩;refine⟨by show H1.size+s.size<=_;omega,?_⟩;refine Wsem.cut _ ?_ tail4;refine⟨⟨rfl,rfl,rfl,?_,trivial⟩,trivial,rfl⟩;rw[hs2];rfl
 refine zY ttok mixed Tryz.func93 rfl (by rfl) (Nat.le_of_ble_eq_true rfl) (by kernel_rfl) ?_;refine Wsem.seq ttok mixed ?_;refine Wsem.seq ttok mixed ?_;refine .inl ⟨_,hfd,?_⟩;refine⟨by simp only[strsz,sz1];omega,?_⟩;refine⟨by simp only[strsz,sz1];omega,?_⟩;refine .inl ⟨_,hnd,?_⟩;refine⟨by simp only[strsz,sz1];omega,?_⟩;refine⟨by simp only[strsz,sz1];omega,?_⟩;refine⟨by kernel_rfl,?_⟩;refine Wsem.cut _ ?_ fin1;exact⟨⟨rfl,rfl,rfl,congrArg (fun b=>SV.v (str b)) hH1.symm,trivial⟩,trivial,rfl⟩
theorem za5 (N:Nat):z9N N:=by
 induction N with
 | zero =>
  intro p x y h hs;obtain⟨hn,_⟩:=h;cases p<;>first|(cases hn;done)|skip
  simp only[Cr.sz] at hs;omega
 | succ N ih =>
  intro p x y h hs hle hlen;cases p with
  | node f n s t g=>exact z4R N f n s t g x y h hs hle hlen ih
  | _=>cases h.n
def Cr.TA (R:Tp->Prop):Cr->Prop
 | .nil=>True
 | .node _ _ _ t g=>R t/\g.TA R
 | .kid p r=>p.TA R/\r.TA R
 | .bind _ t p r=>R t/\p.TA R/\r.TA R
 | .alt _ _ _ _ p r=>p.TA R/\r.TA R
theorem Cr.TA.mono {R R':Tp->Prop} (h:∀t,R t->R' t) (c:Cr):c.TA R->c.TA R':=by
 induction c with
 | nil=>exact fun h=>h
 | node f n s t g ih=>exact fun q=>⟨h _ q.1,ih q.2⟩
 | kid p r ihp ih=>exact fun q=>⟨ihp q.1,ih q.2⟩
 | bind x t p r ihp ih=>exact fun q=>⟨h _ q.1,ihp q.2.1,ih q.2.2⟩
 | alt f n s vs p r ihp ih=>exact fun q=>⟨ihp q.1,ih q.2⟩
theorem zdM (c:Cr):c.TZ↔c.TA (fun t=>t.sz<900000):=by
 induction c with
 | nil=>exact Iff.rfl
 | node f n s t g ih=>exact and_congr Iff.rfl ih
 | kid p r ihp ih=>exact and_congr ihp ih
 | bind x t p r ihp ih=>exact and_congr Iff.rfl (and_congr ihp ih)
 | alt f n s vs p r ihp ih=>exact and_congr ihp ih
theorem zc3 (c:Cr):c.TA (fun t=>t.sz<=c.wt):=by
 induction c with
 | nil=>trivial
 | node f n s t g ih=>exact⟨by simp only[Cr.wt];omega,ih.mono (fun t h=>by simp only[Cr.wt];omega)⟩
 | kid p r ihp ih=>exact⟨ihp.mono (fun t h=>by simp only[Cr.wt];omega),ih.mono (fun t h=>by simp only[Cr.wt];omega)⟩
 | bind x t p r ihp ih=>exact⟨by simp only[Cr.wt];omega,ihp.mono (fun t h=>by simp only[Cr.wt];omega),ih.mono (fun t h=>by simp only[Cr.wt];omega)⟩
 | alt f n s vs p r ihp ih=>exact⟨ihp.mono (fun t h=>by simp only[Cr.wt];omega),ih.mono (fun t h=>by simp only[Cr.wt];omega)⟩
section
variable {φ:Cr->Cr} {τ:Tp->Tp} {ν:ByteArray->ByteArray} {α:List ByteArray->Cr->List ByteArray×Cr}
theorem zQV {R R':Tp->Prop} (h0:∀t,R t->R' t) (hφ:∀p:Cr,p.TA R->(φ p).TA R') (hτ:∀t:Tp,R t->R' (τ t)) (hα:∀(vs:List ByteArray) (p:Cr),p.TA R->(α vs p).2.TA R') (g:Cr):g.TA R->(yC φ τ ν α g).TA R':=by
 induction g with
 | nil=>exact fun h=>h
 | node f n s t g _=>exact fun h=>⟨h0 _ h.1,h.2.mono h0⟩
 | kid p r _ ih=>exact fun h=>⟨hφ p h.1,ih h.2⟩
 | bind x t p r _ ih=>exact fun h=>⟨hτ t h.1,hφ p h.2.1,ih h.2.2⟩
 | alt f n s vs p r _ ih=>exact fun h=>⟨hα vs p h.1,ih h.2⟩
theorem zD5 (hφ:∀p:Cr,p.Nc->(φ p).Nc) (hτ:∀t:Tp,Nm t->Nm (τ t)) (hα:∀(vs:List ByteArray) (p:Cr),p.Nc->(α vs p).2.Nc) (g:Cr):g.Nc->(yC φ τ ν α g).Nc:=by
 induction g with
 | nil=>exact fun h=>h
 | node f n s t g _=>exact fun h=>h
 | kid p r _ ih=>exact fun h=>⟨hφ p h.1,ih h.2⟩
 | bind x t p r _ ih=>exact fun h=>⟨hτ t h.1,hφ p h.2.1,ih h.2.2⟩
 | alt f n s vs p r _ ih=>exact fun h=>⟨h.1,h.2.1,hα vs p h.2.2.1,ih h.2.2.2⟩
end
theorem zcI (k:Nat):∀(c:Cr) (v:ByteArray) (t:Tp) (R R':Tp->Prop),(∀u,R u->R' u)->(∀u,R u->R' (sub u [(v,t)]))->(∀u y z,R u->R (sub u [(y,.var z)]))->c.TA R->(stF k c v t).TA R':=by
 induction k with
 | zero=>intro c v t R R' h0 _ _ h;cases c<;>exact h.mono h0
 | succ k ih =>
  intro c v t R R' h0 h1 h2 h;cases c with
  | node f n s ty g =>
   unfold stF;split
   ·split
    ·exact⟨h0 _ h.1,h.2.mono h0⟩
    ·split
     ·exact⟨h0 _ h.1,zQV h0 (fun p hp=>ih _ _ _ R R' h0 h1 h2 (ih _ _ _ R R (fun _ h=>h) (fun u hu=>h2 u _ _ hu) h2 hp)) h0 (fun vs p h3=>h3.mono h0) g h.2⟩
     ·exact⟨h0 _ h.1,zQV h0 (fun p hp=>ih _ _ _ R R' h0 h1 h2 hp) h0 (fun vs p h3=>h3.mono h0) g h.2⟩
   ·exact⟨h1 _ h.1,zQV h0 (fun p hp=>ih _ _ _ R R' h0 h1 h2 hp) h1 (fun vs p h3=>ih _ _ _ R R' h0 h1 h2 h3) g h.2⟩
  | _=>exact h.mono h0
theorem z5I {u t:Tp} {v:ByteArray} (hu:Nm u) (ht:Nm t):Nm (sub u [(v,t)]):=zaU u _ hu (fun p hp=>by rw[List.mem_singleton.1 hp];exact ht)
theorem z3C (k:Nat):∀(c:Cr) (v:ByteArray) (t:Tp),Nm t->c.Nc->(stF k c v t).Nc:=by
 induction k with
 | zero=>intro c v t ht h;cases c<;>exact h
 | succ k ih =>
  intro c v t ht h;cases c with
  | node f n s ty g =>
   unfold stF;split
   ·split
    ·exact h
    ·split
     ·exact⟨h.1,h.2.1,h.2.2.1,zD5 (fun p hp=>ih _ _ _ ht (ih _ _ (.var _) trivial hp)) (fun t h=>h) (fun vs p h2=>h2) g h.2.2.2⟩
     ·exact⟨h.1,h.2.1,h.2.2.1,zD5 (fun p hp=>ih _ _ _ ht hp) (fun t h=>h) (fun vs p h2=>h2) g h.2.2.2⟩
   ·refine⟨h.1,h.2.1,?_,zD5 (fun p hp=>ih _ _ _ ht hp) (fun t h=>z5I h ht) (fun vs p h2=>ih _ _ _ ht h2) g h.2.2.2⟩;rcases h.2.2.1 with rfl|h
    ·exact .inl rfl
    ·exact .inr (z5I h ht)
  | _=>exact h
theorem zaZ (k:Nat):∀(c:Cr) (x:ByteArray) (b:Cr),c.Nc->b.Nc->(sbF k c x b).Nc:=by
 induction k with
 | zero=>intro c x b h hb;cases c<;>exact h
 | succ k ih =>
  intro c x b h hb;have hr:=zET (k:=k) (Q:=Cr.Nc) (fun c x z h=>ih c x (vr z) h ⟨by decide,by decide,.inl rfl,trivial⟩);cases c with
  | node f n s ty g =>
   have hα:∀(vs:List ByteArray) (p:Cr),p.Nc->(wP (fun rs p=>sbF k (rs.foldl (fun p q=>sbF k p q.1 (vr q.2)) p) x b) x b.fv vs p).2.Nc:=by
    intro vs p h2;unfold wP;split
    ·exact h2
    ·exact ih _ _ _ (hr _ _ h2) hb
   unfold sbF;split
   ·split
    ·exact hb
    ·exact h
   ·split
    ·split
     ·split
      ·exact⟨h.1,h.2.1,h.2.2.1,zD5 (fun p hp=>ih _ _ _ (z3C k _ _ (.var _) trivial hp) hb) (fun t h=>h) (fun vs p h2=>h2) g h.2.2.2⟩
      ·exact⟨h.1,h.2.1,h.2.2.1,zD5 (fun p hp=>ih _ _ _ hp hb) (fun t h=>h) (fun vs p h2=>h2) g h.2.2.2⟩
     ·exact h
    ·split
     ·exact⟨h.1,h.2.1,h.2.2.1,zD5 (fun p hp=>hp) (fun t h=>h) hα g h.2.2.2⟩
     ·exact⟨h.1,h.2.1,h.2.2.1,zD5 (fun p hp=>ih _ _ _ (hr _ _ hp) hb) (fun t h=>h) hα g h.2.2.2⟩
  | _=>exact h
structure Tx (c:Cr):Prop where
 na:Na c
 v0:c.V0
 dp:dpC c<=2000
 vc:Vc (dbc c [] [])
 len:(zW (dbc c [] [])).length<=1000000000000000000
theorem Tx.sa {c:Cr} (h:Tx c):Sa c:=⟨h.na.n,h.na.ok,h.na.few,h.na.sz,h.v0,h.na.tz⟩
theorem Sm.tx {c:Cr} (h:Sm c) (hp:c.Pk):Tx c/\(zW (dbc c [] [])).length<=36000:=by
 obtain⟨h1,h2⟩:=h.sa (zcR c hp);have hw:=h.wt;have hl:=z3U c [] [] h.ok hp h.low (by omega) (by simp only[List.length_nil];omega);exact⟨⟨⟨h.n,h.ok,h.gd.few,h1.sz,zdK c hp,h1.tz⟩,h1.v0,by omega,zaM c [] [] h.ok hp h.low,by omega⟩,by omega⟩
theorem zc2 {s:ByteArray} (hs:s∈W18):(vr s).Pk:=⟨by decide,⟨by decide,by decide,fun _=>rfl⟩,hs,.inr ⟨rfl,by decide,by decide,by decide,by decide⟩,trivial⟩
theorem z9T {c b:Cr} {x:ByteArray} (hc:Sm c) (hcp:c.Pk) (hb:Sm b) (hbp:b.Pk):Tx (sbF 590 c x b):=by
 obtain⟨h1,h2⟩:=hc.tx hcp;obtain⟨k1,k2⟩:=hb.tx hbp;obtain⟨s1,s2⟩:=hc.sbSa h1.v0 hb k1.v0 x;have hd:=z2M (x:=x) hc.ok hc.n hb.ok hb.n hc.sz;have hf:∀y,isD (sgO x b y)=true:=fun y=>by
  unfold sgO;split
  ·rw[zAT];exact hb.n
  ·rfl
 refine⟨⟨s1.n,s1.ok,s1.few,s1.sz,zaZ 590 c x b h1.na.nc k1.na.nc,s1.tz⟩,s1.v0,by omega,?_,?_⟩
 ·rw[hd];refine z2H (τ := .fr) hf (fun y hy=>?_) (fun y hy=>hy) _ h1.vc;unfold sgO;split
  ·exact k1.vc
  ·exact hy
 ·rw[hd];have h3:∀y:ByteArray,1<=(zW (.fr y)).length:=fun y=>by simp[zW]
  have h4:=zXZ (σ:=sgO x b) (τ := .fr) (M:=36000) (by decide) (fun y=>by
   unfold sgO;split
   ·exact Nat.le_trans k2 (Nat.le_mul_of_pos_left _ (h3 y))
   ·exact Nat.le_mul_of_pos_right _ (by decide)) (fun y=>Nat.le_mul_of_pos_right _ (by decide)) (dbc c [] [])
  have h5:=Nat.mul_le_mul_right 36000 h2;omega
theorem zHY {α:Type} (F:α->Nat) {l:List α} {k:Nat} (h:k<l.length):((l.take (k+1)).map F).sum=((l.take k).map F).sum+F l[k]:=by
 rw[List.take_succ_eq_append_getElem h,List.map_append,List.sum_append,List.map_cons,List.map_nil,List.sum_cons,List.sum_nil,Nat.add_zero]
theorem zUM {α:Type} (F:α->Nat) {l:List α} {k:Nat} (h:k<l.length):((l.take k).map F).sum+F l[k]<=(l.map F).sum:=by
 have h1:=zHY F h;have:(l.map F).sum=((l.take (k+1)).map F).sum+((l.drop (k+1)).map F).sum:=by rw[<-List.sum_append,<-List.map_append,List.take_append_drop]
 omega
theorem wrap_add (a b:Nat) (h:a+b<9000000000000000000):IntKind.i64.wrap ((a:Int)+(b:Int))=((a+b:Nat):Int):=by rw[<-Int.natCast_add];exact yF (by omega)
abbrev zPY (c:Cr):Prop:=zC Tryz.prog 48 [eC c] (.lit (.int .i64 (c.sz:Nat)))
theorem z5O (N:Nat) (c:Cr) (hn:c.isN=true) (ho:c.Ok) (hs:c.sz<=N+1) (hN:N<900000) (ih:∀p:Cr,p.isN=true->p.Ok->p.sz<=N->zPY p):zPY c:=by
 have hp:=zM0 c ho;rw[hn] at hp;simp only[if_true] at hp;have hl:=xA c ho;obtain⟨SK,hSK⟩:∃S,S=(c.kids.map Cr.sz).sum:=⟨_,rfl⟩
 obtain⟨SB,hSB⟩:∃S,S=(c.binds.map fun b=>b.2.2.sz).sum:=⟨_,rfl⟩
 obtain⟨SA,hSA⟩:∃S,S=(c.alts.map fun a=>a.2.2.sz).sum:=⟨_,rfl⟩
 rw[<-hSK,<-hSB,<-hSA] at hp;refine zY ttok mixed Tryz.func48 rfl (by rfl) (Nat.le_of_ble_eq_true rfl) (by kernel_rfl) ?_;refine Wsem.seq ttok mixed ?_;refine Wsem.seq ttok mixed ?_;refine Wsem.cut {vs:=[(1,.box 0 (eC c)),(3,sv (1:Nat))]} ⟨⟨rfl,rfl,trivial⟩,trivial,rfl⟩ ?_;refine Wsem.seq ttok mixed ?_;refine⟨{k:Nat // k<=c.kids.length},fun k=>{vs:=[(1,.box 0 (eC c)),(3,sv (1+((c.kids.take k.1).map Cr.sz).sum:Nat)),(4,sv (k.1:Nat))]},
  fun k=>c.kids.length-k.1,⟨0,Nat.zero_le _⟩,⟨⟨rfl,rfl,rfl,trivial⟩,trivial,rfl⟩,?_⟩
 rintro⟨k,hk⟩;refine⟨fun h=>?_,fun h=>?_⟩
 ·have h:k<c.kids.length:=by have h:=of_decide_eq_true h;rw[zGW] at h;simp only at h;omega
  have hin:=zUM Cr.sz h;rw[<-hSK] at hin;have hm:=List.getElem_mem h;have hz:=zBT (c:=c) hm;rw[hn] at hz;simp only[if_true] at hz;refine⟨_,by omega,zJ7 h,rfl,?_⟩;refine .inl ⟨_,ih _ (ho.kid hm).1 (ho.kid hm).2 (by omega),?_⟩;refine⟨⟨k+1,h⟩,by simp;omega,⟨rfl,?_,svc (wrap_succ (k:=k) (by omega)),trivial⟩,trivial,rfl⟩;refine svc ?_;refine (wrap_add (1+((c.kids.take k).map Cr.sz).sum) c.kids[k].sz (by omega)).trans ?_;rw[zHY Cr.sz h,Nat.add_assoc]
 have h:k=c.kids.length:=by have h:=of_decide_eq_false h;rw[zGW] at h;simp only at h;omega
 subst h;refine Wsem.cut {vs:=[(1,.box 0 (eC c)),(3,sv (1+SK:Nat))]} ⟨⟨rfl,by rw[List.take_length,hSK];rfl,trivial⟩,trivial,rfl⟩ ?_;refine Wsem.seq ttok mixed ?_;refine⟨{k:Nat // k<=c.binds.length},fun k=>{vs:=[(1,.box 0 (eC c)),(3,sv (1+SK+((c.binds.take k.1).map fun b=>b.2.2.sz).sum:Nat)),(5,sv (k.1:Nat))]},
  fun k=>c.binds.length-k.1,⟨0,Nat.zero_le _⟩,⟨⟨rfl,rfl,rfl,trivial⟩,trivial,rfl⟩,?_⟩
 rintro⟨k,hk⟩;refine⟨fun h=>?_,fun h=>?_⟩
 ·have h:k<c.binds.length:=by have h:=of_decide_eq_true h;rw[zEE] at h;simp only at h;omega
  have hin:((c.binds.take k).map fun b=>b.2.2.sz).sum+c.binds[k].2.2.sz<=SB:=by rw[hSB];exact zUM (fun b:Bdg=>b.2.2.sz) h
  have hm:=List.getElem_mem h;have hz:=jS (c:=c) hm;rw[hn] at hz;simp only[if_true] at hz;refine⟨_,by omega,zEG h,rfl,?_⟩;refine .inl ⟨_,ih c.binds[k].2.2 (ho.bind hm).1 (ho.bind hm).2 (by omega),?_⟩;refine⟨⟨k+1,h⟩,by simp;omega,⟨rfl,?_,svc (wrap_succ (k:=k) (by omega)),trivial⟩,trivial,rfl⟩;refine svc ?_;refine (wrap_add (1+SK+((c.binds.take k).map fun b=>b.2.2.sz).sum) c.binds[k].2.2.sz (by omega)).trans ?_;rw[zHY (fun b:Bdg=>b.2.2.sz) h,Nat.add_assoc (1+SK)]
 have h:k=c.binds.length:=by have h:=of_decide_eq_false h;rw[zEE] at h;simp only at h;omega
 subst h;refine Wsem.cut {vs:=[(1,.box 0 (eC c)),(3,sv (1+SK+SB:Nat))]} ⟨⟨rfl,by rw[List.take_length,hSB];rfl,trivial⟩,trivial,rfl⟩ ?_;refine Wsem.seq ttok mixed ?_;refine⟨{k:Nat // k<=c.alts.length},fun k=>{vs:=[(1,.box 0 (eC c)),(3,sv (1+SK+SB+((c.alts.take k.1).map fun b=>b.2.2.sz).sum:Nat)),(6,sv (k.1:Nat))]},
  fun k=>c.alts.length-k.1,⟨0,Nat.zero_le _⟩,⟨⟨rfl,rfl,rfl,trivial⟩,trivial,rfl⟩,?_⟩
 rintro⟨k,hk⟩;refine⟨fun h=>?_,fun h=>?_⟩
 ·have h:k<c.alts.length:=by have h:=of_decide_eq_true h;rw[zIH] at h;simp only at h;omega
  have hin:((c.alts.take k).map fun b=>b.2.2.sz).sum+c.alts[k].2.2.sz<=SA:=by rw[hSA];exact zUM (fun b:Alg=>b.2.2.sz) h
  have hm:=List.getElem_mem h;have hz:=zBX (c:=c) hm;rw[hn] at hz;simp only[if_true] at hz;refine⟨_,by omega,zGE h,rfl,?_⟩;refine .inl ⟨_,ih c.alts[k].2.2 (ho.alt hm).1 (ho.alt hm).2.1 (by omega),?_⟩;refine⟨⟨k+1,h⟩,by simp;omega,⟨rfl,?_,svc (wrap_succ (k:=k) (by omega)),trivial⟩,trivial,rfl⟩;refine svc ?_;refine (wrap_add (1+SK+SB+((c.alts.take k).map fun b=>b.2.2.sz).sum) c.alts[k].2.2.sz (by omega)).trans ?_;rw[zHY (fun b:Alg=>b.2.2.sz) h,Nat.add_assoc (1+SK+SB)]
 have h:k=c.alts.length:=by have h:=of_decide_eq_false h;rw[zIH] at h;simp only at h;omega
 subst h;rw[List.take_length,<-hSA,show 1+SK+SB+SA=c.sz by omega];refine Wsem.of ttok mixed ?_;exact rfl
theorem zbE (N:Nat):N<900000->∀c:Cr,c.isN=true->c.Ok->c.sz<=N->zPY c:=by
 induction N with
 | zero=>intro _ c hn ho hs;cases c<;>first|(cases hn;done)|(simp only[Cr.sz] at hs;omega)
 | succ N ih=>intro h c hn ho hs;exact z5O N c hn ho hs (by omega) fun p h1 h2 h3=>ih (by omega) p h1 h2 h3
theorem zU3 {c:Cr} (h:Sm c):zC Tryz.prog 48 [eC c] (.lit (.int .i64 (c.sz:Nat))):=zbE 590 (by decide) c h.n h.ok h.sz
theorem zVB {a b:Cr} (ha:Tx a) (hb:Tx b):zC Tryz.prog 49 [eC a,eC b] (.sb (decide (dbc a [] []=dbc b [] []))):=by
 have one:∀{c:Cr},Tx c->zC Tryz.prog 93 [eC c,.sl (eSs []),.sl (eSs [])] (str (bs (zW (dbc c [] [])))):=fun {c} h =>
  za5 c.sz c [] [] h.na (Nat.le_refl _) (by have:=h.dp;simp only[List.length_nil];omega) h.len
 have e:(dbc a [] []=dbc b [] [])↔(bs (zW (dbc a [] []))=bs (zW (dbc b [] []))):=by
  constructor
  ·exact fun h=>by rw[h]
  ·intro h;have h2:zW (dbc a [] [])++[]=zW (dbc b [] [])++[]:=by rw[<-zEL (zW (dbc a [] [])),h,zEL]
   exact ((z4I (dbc a [] [])).1 (by rw[zAT];exact ha.na.n) _ (by rw[zAT];exact hb.na.n) ha.vc hb.vc [] [] h2).1
 rw[show decide (dbc a [] []=dbc b [] [])=decide (bs (zW (dbc a [] []))=bs (zW (dbc b [] []))) from decide_eq_decide.2 e];refine zG ttok mixed Tryz.func49 rfl (by rfl) (Nat.le_of_ble_eq_true rfl) (by kernel_rfl) ?_;refine .inl ⟨_,one ha,?_⟩;refine .inl ⟨_,one hb,?_⟩;refine⟨by kernel_rfl,?_⟩;exact rfl
theorem zUG {l:List Int} (hl:l.length<9223372036854775808) (hr:∀x∈l,InR x):∃t:Tp,zC Tryz.prog 43 [.sl (eIs l)] (eTy t)/\good t/\t.sz<=193:=by
 obtain⟨t,rest,h1,h2,h3,h4,h5⟩:=z5R (l.take 24).length (l.take 24) 0 false rfl (by simp;omega) (fun x hx=>hr x (List.mem_of_mem_take hx)) (by simp;omega);refine⟨t,?_,h4,by simp at h5;omega⟩;refine zB ttok mixed Tryz.func43 rfl (by rfl) (Nat.le_of_ble_eq_true rfl) (by kernel_rfl) ?_;refine .inl ⟨_,zWY (n:=24) hl (by decide),?_⟩;refine .inl ⟨_,h1,?_⟩;exact rfl
noncomputable def tgO (x:ByteArray) (t:Tp) (y:ByteArray):Db:=if y=x then db t [] else .fr y
theorem zcT {c:Cr} {s:ByteArray} {t:Tp} (hc:Sm c) (hcp:c.Pk) (ht:good t) (hl:LowT 2000 t) (hs:t.sz<=590):Tx (stF 590 c s t):=by
 obtain⟨h1,h2⟩:=hc.tx hcp;have hz:=jP 590 c s t hc.ok;have hcz:=hc.sz;have hta:(stF 590 c s t).TA (fun t=>t.sz<900000):=zcI 590 c s t (fun u=>u.sz<=590) _ (fun u h=>by omega)
  (fun u h=>by
   have h3:=z3E (M:=590) (by decide) u [(s,t)] (fun p hp=>by rw[List.mem_singleton.1 hp];exact hs);have h4:=Nat.mul_le_mul_right 590 h;omega)
  (fun u y z h=>Nat.le_trans (z0T u y z) h) ((zc3 c).mono fun u h=>Nat.le_trans h hc.wt)
 have hd:=z0D 590 c s t [] [] [] (tgO s t) hc.ok hc.n hc.sz (fun y hy=>by
  have e1:wZ y [(s,t)]=if s=y then t else .var y:=by
   unfold wZ look look;split<;>rfl
  refine .inr ⟨List.not_mem_nil,fun w hw=>List.not_mem_nil,?_⟩;rw[e1];unfold tgO;by_cases h:s=y
  ·rw[if_pos h,if_pos h.symm]
  ·rw[if_neg h,if_neg fun h2=>h h2.symm];simp[db,memb])
 have hnm:=zDV ht;have hVd:=z0K t [] hl hnm;have hvc:Vc (sbD .fr (tgO s t) (dbc c [] [])):=by
  refine z2H (σ := .fr) (fun _=>rfl) (fun y hy=>hy) (fun y hy=>?_) _ h1.vc;unfold tgO;split
  ·exact hVd
  ·exact hy
 have h3:∀y:ByteArray,1<=(ser (.fr y)).length:=fun y=>by simp[ser]
 have h6:=zQ7 hl hnm [] (by simp only[List.length_nil];omega);have h4:=zXZ (σ := .fr) (τ:=tgO s t) (M:=36000) (by decide) (fun y=>Nat.le_mul_of_pos_right _ (by decide)) (fun y=>by
  unfold tgO;split
  ·exact Nat.le_trans (show _<=36000 by omega) (Nat.le_mul_of_pos_left _ (h3 y))
  ·exact Nat.le_mul_of_pos_right _ (by decide)) (dbc c [] [])
 have h5:=Nat.mul_le_mul_right 36000 h2;refine⟨⟨(zHK 590 c s t).trans hc.n,hz.2.2,zWN 590 c s t hc.gd.few,by rw[hz.1];omega,z3C 590 c s t hnm h1.na.nc,(zdM _).2 hta⟩,z4L 590 c s t h1.v0,Nat.le_trans (z03 590 c s t) h1.dp,?_,?_⟩
 ·rw[hd];exact hvc
 ·rw[hd];omega
theorem zME (x:Int):InR (IntKind.i64.wrap x):=by
 rw[IntKind.wrap_i64];unfold InR;omega
theorem za7 {s:ByteArray} (h:s∈nm18):s∈W18:=nmW h
theorem zQK {l0 l1:List Int} {n:Int} (hl0:l0.length<9223372036854775808) (hr0:∀x∈l0,InR x) (hl1:l1.length<9223372036854775808) (hr1:∀x∈l1,InR x) (hn:InR n):zC Tryz.prog 10 [.sl (eIs l0),.sl (eIs l1),.lit (.int .i64 n)] (.sb true):=by
 obtain⟨a,ha,hap,hA⟩:=zO7 hl0 hr0;obtain⟨b,hb,hbp,hB⟩:=zO7 hl1 hr1;obtain⟨r,hr,hR⟩:=qN hn (m:=4) (by decide) (by decide);obtain⟨s,hs,hS⟩:=zH1 (zME (n.tdiv 4));obtain⟨s2,hs2,hS2⟩:=zH1 (zME (n.tdiv 20));obtain⟨v,hv,hV⟩:=zKX (zME (n.tdiv 4));obtain⟨t,hT,hgt,hts⟩:=zUG hl1 hr1;have hlow:LowT 2000 t:=(z1A hgt).mono (by decide);have has:=ha.sz;have hta:=(ha.tx hap).1;have htn:=zGG a;have hwt:=ha.wt;have g1:=z0L 590 a s b ha ha.sz hb;have g2:=z1I 590 a v t ha ha.sz hlow (by omega);have g3:=z0L 590 a s (vr s2) ha ha.sz (zK8 s2);have x0:=(hb.tx hbp).1;have x1:=z9T (x:=s) ha hap hb hbp;have x2:=zcT (s:=v) ha hap hgt hlow (by omega);have x3:=z9T (x:=s) ha hap (zK8 s2) (zc2 (za7 hs2));have f1:=zCD ha.n ha.ok ha.gd.few (by omega);have f2:=zDG ha;have f3:=zSS a.fv a.fv (by have:=qP a;omega) (by have:=qP a;omega);rw[decide_eq_true (rfl:a.fv=a.fv)] at f3;have f4:=zBC ha.n ha.ok (by omega) (by omega);have f5:=zFL ha.n ha.ok (by omega) (by omega);have f6:=zSS a.tv a.tv (by have:=xY a;omega) (by have:=xY a;omega);rw[decide_eq_true (rfl:a.tv=a.tv)] at f6;have f7:=zTR ha;have f8:=zU3 ha;have f9:=zPK hta.sa hta.sa (by have:=hta.dp;omega);rw[decide_eq_true (rfl:dbc a [] []=dbc a [] [])] at f9;have tail:∀b':Cr,Tx b'->Wsem Tryz.prog (y7 (y7 (y7 (y7 (bodyC Tryz.f10))))) (mkC {vs:=[(7,.box 0 (eC a)),(8,.box 0 (eC b'))]})
   (fun c2=>jM tt Tryz.f10.results.toList (.sb true) (den c2)) (fun _ _=>False) (fun c2=>jM tt Tryz.f10.results.toList (.sb true) (den c2)):=fun b' hb'=>by
  have e1:=zPK hta.sa hb'.sa (by have:=hta.dp;omega);have e2:=zVB hta hb';refine Wsem.of ttok mixed ?_;refine .inl ⟨_,f1,?_⟩;refine .inl ⟨_,f2,?_⟩;refine .inl ⟨_,f3,?_⟩;refine⟨fun _=>?_,fun h=>absurd h (by decide)⟩;refine .inl ⟨_,f4,?_⟩;refine .inl ⟨_,f5,?_⟩;refine .inl ⟨_,f6,?_⟩;refine⟨fun _=>?_,fun h=>absurd h (by decide)⟩;refine .inl ⟨_,f7,?_⟩;refine .inl ⟨_,f8,?_⟩;refine⟨fun _=>?_,fun h=>absurd h (by simp)⟩;refine .inl ⟨_,e1,?_⟩;refine .inl ⟨_,e2,?_⟩;refine⟨fun _=>?_,fun h=>absurd h (by simp)⟩;refine .inl ⟨_,f9,?_⟩;refine⟨fun _=>?_,fun h=>absurd h (by decide)⟩;refine .inl ⟨_,z5X,?_⟩;refine⟨by kernel_rfl,?_⟩;exact rfl
 refine zY ttok mixed Tryz.func10 rfl (by rfl) (Nat.le_of_ble_eq_true rfl) (by kernel_rfl) ?_;refine Wsem.seq ttok mixed ?_;refine Wsem.seq ttok mixed ?_;refine .inl ⟨_,hA,?_⟩;refine Wsem.seq ttok mixed ?_;refine .inl ⟨_,hB,?_⟩;refine Wsem.cut {vs:=[(1,.v (.sl (eIs l1))),(2,.v (.lit (.int .i64 n))),(7,.box 0 (eC a)),(8,.box 0 (eC b))]} ⟨⟨rfl,rfl,rfl,rfl,trivial⟩,trivial,rfl⟩ ?_;refine Wsem.seq ttok mixed ?_;refine .inl ⟨_,hR,?_⟩;by_cases h1:r=1
 ·subst h1;refine⟨fun _=>?_,fun h=>absurd h (by simp)⟩;refine⟨by decide,?_⟩;refine .inl ⟨_,hS,?_⟩;refine .inl ⟨_,g1,?_⟩;refine⟨by kernel_rfl,?_⟩;refine Wsem.cut _ ?_ (tail _ x1);exact⟨⟨rfl,rfl,trivial⟩,trivial,rfl⟩
 have hb1:∀{P:Prop},decide ((r:Int)=1)=true->P:=fun {P} h=>absurd (of_decide_eq_true h) (by omega);refine⟨fun h=>hb1 h,fun _=>?_⟩;by_cases h2:r=2
 ·subst h2;refine⟨fun _=>?_,fun h=>absurd h (by simp)⟩;refine⟨by decide,?_⟩;refine .inl ⟨_,hV,?_⟩;refine .inl ⟨_,hT,?_⟩;refine .inl ⟨_,g2,?_⟩;refine⟨by kernel_rfl,?_⟩;refine Wsem.cut _ ?_ (tail _ x2);exact⟨⟨rfl,rfl,trivial⟩,trivial,rfl⟩
 have hb2:∀{P:Prop},decide ((r:Int)=2)=true->P:=fun {P} h=>absurd (of_decide_eq_true h) (by omega);refine⟨fun h=>hb2 h,fun _=>?_⟩;by_cases h3:r=3
 ·subst h3;refine⟨fun _=>?_,fun h=>absurd h (by simp)⟩;refine⟨by decide,?_⟩;refine .inl ⟨_,hS,?_⟩;refine⟨by decide,?_⟩;refine .inl ⟨_,hS2,?_⟩;refine .inl ⟨_,g3,?_⟩;refine⟨by kernel_rfl,?_⟩;refine Wsem.cut _ ?_ (tail _ x3);exact⟨⟨rfl,rfl,trivial⟩,trivial,rfl⟩
 have hb3:∀{P:Prop},decide ((r:Int)=3)=true->P:=fun {P} h=>absurd (of_decide_eq_true h) (by omega);refine⟨fun h=>hb3 h,fun _=>?_⟩;refine Wsem.cut _ ?_ (tail _ x0);exact⟨⟨rfl,rfl,trivial⟩,trivial,rfl⟩
end Go.Proofs.YtgonkhaebmfgiaaGreatDoor
