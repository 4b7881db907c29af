/- A constructor's pattern, of whatever type: what its fields are of. The fields, one after another. No condition but on what is known. -/
import Derived.Test.YtebmimnglcdogaaGreatDoorP
import Derived.Test.YtebmimnglcdogaaGreatDoorS
import Derived.Test.YtebmimnglcdogaaGreatDoorB
set_option linter.unusedSimpArgs false
set_option linter.unusedVariables false
namespace Go.Proofs.YtebmimnglcdogaaGreatDoor
open Go Fp
set_option maxRecDepth 10000
set_option maxHeartbeats 4000000
set_option linter.unusedVariables false
set_option linter.unusedSimpArgs false
theorem TyOk.mono {k k1:Nat} {θ θ1:Int->Tp} {w:Nat} {t:Tp} (h:TyOk k θ w t) (hk:k<=k1) (he:∀n:Int,n<=(k:Int)->θ1 n=θ n):TyOk k1 θ1 w t :=
 ⟨h.flat,fun m hm=>by have:=h.dom m hm;omega,by rw[<-h.ty];exact Ck.sbt_congr fun n hn=>he n (h.dom n hn)⟩
theorem zMG (w:Nat):Ck.flat (wTy w)/\Ck.mvs (wTy w)=[]/\(∀θ,Ck.sbt θ (wTy w)=wTy w)/\Ck.fv (wTy w)=[]/\Ck.dp (wTy w)=0/\Ck.sub (wTy w) []=wTy w:=by
 match w with
 | 0=>exact⟨trivial,rfl,fun _=>rfl,by decide,rfl,rfl⟩
 | 1=>exact⟨trivial,rfl,fun _=>rfl,by decide,rfl,rfl⟩
 | 2=>exact⟨⟨trivial,trivial⟩,rfl,fun _=>rfl,by decide,rfl,rfl⟩
 | 3=>exact⟨trivial,rfl,fun _=>rfl,by decide,rfl,rfl⟩
 | n+4=>exact⟨⟨trivial,trivial⟩,rfl,fun _=>rfl,by simp[wTy,Ck.fv,Ck.insAll],rfl,rfl⟩
theorem zRX (k:Nat) (θ:Int->Tp) (w:Nat):TyOk k θ w (wTy w):=by
 obtain⟨h1,h2,h3,_⟩:=zMG w;exact⟨h1,fun m hm=>by rw[h2] at hm;simp at hm,h3 θ⟩
theorem zPW {k:Nat} {l:Ck.Kn} {θ:Int->Tp} (h:StOk k l θ) (hk6:k<1000000) {w:Nat} {t:Tp} (ht:TyOk k θ w t) {s:ByteArray} {fs:List Nat} (hs:(s,fs)∈zL w) :
  ∃(d:DT) (kk:Nat) (fts:List Tp) (k1:Nat) (l1:Ck.Kn) (θ1:Int->Tp) (L:List Tp),zD Tryz.prog yS [cAV,.lit (.string s)] (.tup [eD d,.lit (.int .i64 (kk:Nat)),.sb true])/\d.2.2.2.2[kk]? = some (s,fts)/\fts.length=fs.length/\d.2.2.2.2.length<=3 /\
   StOk k1 l1 θ1/\k<=k1/\k1<=k+1/\(∀n:Int,n<=(k:Int)->θ1 n=θ n) /\
   (∀(i:Nat) ft u,fts[i]? = some ft->fs[i]? = some u->∃tt,TyOk k1 θ1 u tt/\zD Tryz.prog zAK [eTy ft,.sl (eSs d.2.2.1),.sl (zN L)] (eTy tt)) /\
   ∀(bm b1 b2 bp:Nat) (vv:AV) (n0:Int) (ks:List Pt) (t0:Tp),ks.length=fts.length->ks.length<1000->CallsG Tryz.prog (fnv 68) (mkB bm b1 vv::(Ck.stH b1 b2 (k:Nat) l++[(bp,HO.cells (ptC 4 0 n0 s (.sl (zG ks)) t0 (.sl [])))])) [sp bm,sp bp,eTy t] [] fun r o hp=>r = .lit (.int .i64 0)/\o=0/\hp=mkB bm b1 vv::(Ck.stH b1 b2 (k1:Nat) l1++[(bp,HO.cells (ptC 4 0 n0 s (.sl (zG ks)) t0 (.sl (zN L))))]):=by
 obtain⟨d,kk,fts,h1,h2,h3,h4,h5⟩:=zQW hs;rcases h5 with⟨hv,hw,hf⟩|⟨hv,a,hw,ha,hf⟩
 ·obtain⟨l',q1,q2⟩:=zV7 h ht h1 h2 h4 hv hw;refine⟨d,kk,fts,k,l',θ,[],h1,h2,h3,h4,q1,Nat.le_refl _,Nat.le_succ _,fun _ _=>rfl,fun i ft u g1 g2=>⟨wTy u,zRX _ _ _,?_⟩,fun bm b1 b2 bp vv n0 ks t0 e1 e2=>CallsG.freezeH (q2 bm b1 b2 bp vv n0 ks t0 (.sl []) rfl e1 e2) fun r o hp hpo hnd=>?_⟩
  rotate_left
  ·obtain⟨rfl,rfl,rfl⟩:=hpo;refine⟨_,mkB bm b1 vv::(Ck.stH b1 b2 (k:Nat) l'++[(bp,HO.cells (ptC 4 0 n0 s (.sl (zG ks)) t0 (.sl (zN []))))]),[],_,(List.append_nil _).symm,fun b hb=>by simp[keys] at hb,.refl _,rfl,⟨rfl,fun i x x' hx hx'=>?_⟩,rfl,rfl,rfl⟩
   match i with
   | 0=>cases hx;cases hx';exact⟨rfl,.inl rfl⟩
   | 1=>cases hx;cases hx';exact⟨rfl,.inl rfl⟩
   | 2=>cases hx;cases hx';exact⟨rfl,.inl rfl⟩
   | 3 =>
    cases hx;cases hx'
    refine⟨rfl,.inr ⟨_,_,rfl,rfl,rfl,fun c hc=>?_,fun j c c' hc hc'=>?_⟩⟩
    ·simp[ptC] at hc;rcases hc with rfl|rfl|rfl|rfl|rfl|rfl|rfl|rfl|rfl|rfl<;>rfl
    ·match j with
     | 0=>cases hc;cases hc';exact .refl _
     | 1=>cases hc;cases hc';exact .refl _
     | 2=>cases hc;cases hc';exact .refl _
     | 3=>cases hc;cases hc';exact .refl _
     | 4=>cases hc;cases hc';exact .refl _
     | 5=>cases hc;cases hc';exact .refl _
     | 6=>cases hc;cases hc';exact .refl _
     | 7=>cases hc;cases hc';exact .refl _
     | 8=>cases hc;cases hc';exact .refl _
     | 9=>cases hc;cases hc';exact .nil
     | j+10=>simp at hc
   | i+4=>simp at hx
  obtain rfl:=hf i ft u g1 g2;obtain⟨_,_,_,f4,f5,f6⟩:=zMG u;have:=Ck.substX_ok _ (wTy u) (Nat.le_refl _) 0 [] ⟨⟨[],by simp,by rw[f4];simp,by simp⟩,by rw[f5];omega,by rw[f5];simp,by simp⟩;unfold Ck.substSays at this;rw[f6] at this;rw[hv];exact this
 ·obtain⟨l',q1,q2⟩:=zVF h hk6 ht h1 h2 h4 hv hw ha;refine⟨d,kk,fts,k+1,l',_,[.mt ((k+1:Nat):Int)],h1,h2,h3,h4,q1,Nat.le_succ _,Nat.le_refl _,fun n hn=>by rw[if_neg (by omega)],fun i ft u g1 g2=>?_,fun bm b1 b2 bp vv n0 ks t0 e1 e2=>q2 bm b1 b2 bp vv n0 ks t0 (.sl []) rfl e1 e2⟩;rw[hv];rcases hf i ft u g1 g2 with⟨rfl,e⟩|⟨rfl,e⟩
  ·refine⟨.mt ((k+1:Nat):Int),⟨trivial,fun m hm=>by simp[Ck.mvs] at hm;omega,by rw[<-e];simp[Ck.sbt]⟩,?_⟩;have:=Ck.substX_ok _ (.var sa) (Nat.le_refl _) 1 [(sa,.mt ((k+1:Nat):Int))] ⟨⟨[sa],by simp,by simp[Ck.fv],by simp[Ck.fv]⟩,by simp[Ck.dp],by simp[Ck.dp],by simp[Ck.dp]⟩;unfold Ck.substSays at this;rw[show Ck.sub (.var sa) [(sa,.mt ((k+1:Nat):Int))] = .mt ((k+1:Nat):Int) by simp[Ck.sub,Ck.look]] at this;exact this
  ·refine⟨.app (.con sL) (.mt ((k+1:Nat):Int)),⟨⟨trivial,trivial⟩,fun m hm=>by simp[Ck.mvs] at hm;omega,by rw[<-e];simp[Ck.sbt]⟩,?_⟩;have:=Ck.substX_ok _ (.app (.con sL) (.var sa)) (Nat.le_refl _) 1 [(sa,.mt ((k+1:Nat):Int))] ⟨⟨[sa],by simp,fun s hs=>(show s∈[sa] from hs),by simp[Ck.fv]⟩,by simp[Ck.dp],by simp[Ck.dp],by simp[Ck.dp]⟩;unfold Ck.substSays at this;rw[show Ck.sub (.app (.con sL) (.var sa)) [(sa,.mt ((k+1:Nat):Int))] = .app (.con sL) (.mt ((k+1:Nat):Int)) by simp[Ck.sub,Ck.look]] at this;exact this
def zSS (a:AV):Prop := ∃l:List AV,a = .agg l/\l.length=10/\∀c∈l,c.isCell=true
abbrev at0:AV := .agg [.lit (.int .i64 0),.lit (.int .i64 0)]
abbrev zKF (bm b1 b2:Nat) (vv:AV) (k:Nat) (l:Ck.Kn) (p:Pt) (t:Tp) (pv:AV) (k':Nat) (l':Ck.Kn):Prop :=
 CallsG Tryz.prog (fnv 27) (mkB bm b1 vv::Ck.stH b1 b2 (k:Nat) l) [sp bm,ePt p,eTy t] [] fun r o hp=>r = .tup [pv,at0]/\o=0/\hp=mkB bm b1 vv::Ck.stH b1 b2 (k':Nat) l'
def zDP (p:Pt) (w:Nat):Prop := ∀(k:Nat) (l:Ck.Kn) (θ:Int->Tp) (t:Tp),StOk k l θ->TyOk k θ w t->k+p.sz<1000000->∃(k':Nat) (l':Ck.Kn) (θ':Int->Tp) (pv:AV),StOk k' l' θ'/\k<=k'/\k'<=k+p.sz/\(∀n:Int,n<=(k:Int)->θ' n=θ n)/\zSS pv/\∀bm b1 b2 vv,zKF bm b1 b2 vv k l p t pv k' l'
theorem seq_ok:∀(ks:List Pt) (us:List Nat) (tyf:Nat->Tp) (k1:Nat) (l1:Ck.Kn) (θ1:Int->Tp),ks.length=us.length->(∀(i:Nat) p u,ks[i]? = some p->us[i]? = some u->zDP p u)->StOk k1 l1 θ1->(∀(i:Nat) u,us[i]? = some u->TyOk k1 θ1 u (tyf i))->k1+szL ks<1000000 ->
  ∃(kf:Nat->Nat) (lf:Nat->Ck.Kn) (pf:Nat->AV) (θ':Int->Tp),kf 0=k1/\lf 0=l1/\(∀(i:Nat) p,ks[i]? = some p->zSS (pf i)/\∀bm b1 b2 vv,zKF bm b1 b2 vv (kf i) (lf i) p (tyf i) (pf i) (kf (i+1)) (lf (i+1))) /\
   StOk (kf ks.length) (lf ks.length) θ'/\k1<=kf ks.length/\kf ks.length<=k1+szL ks/\∀n:Int,n<=(k1:Int)->θ' n=θ1 n
 | [],us,tyf,k1,l1,θ1,hl,hm,h,ht,hb=>⟨fun _=>k1,fun _=>l1,fun _ => .nil,θ1,rfl,rfl,fun i p hi=>by simp at hi,h,Nat.le_refl _,Nat.le_add_right _ _,fun _ _=>rfl⟩
 | p::ks,[],tyf,k1,l1,θ1,hl,hm,h,ht,hb=>by simp at hl
 | p::ks,u::us,tyf,k1,l1,θ1,hl,hm,h,ht,hb=>by
  have hsz:szL (p::ks)=p.sz+szL ks:=rfl;rw[hsz] at hb;obtain⟨k2,l2,θ2,pv,g1,g2,g3,g4,g5,g6⟩:=hm 0 p u rfl rfl k1 l1 θ1 (tyf 0) h (ht 0 u rfl) (by omega);obtain⟨kf,lf,pf,θ',e1,e2,e3,e4,e5,e6,e7⟩:=seq_ok ks us (fun i=>tyf (i+1)) k2 l2 θ2 (by simpa using hl) (fun i p u hp hu=>hm (i+1) p u hp hu) g1 (fun i u hu=>(ht (i+1) u hu).mono g2 g4) (by omega);refine⟨fun i=>match i with|0=>k1|i+1=>kf i,fun i=>match i with|0=>l1|i+1=>lf i,fun i=>match i with|0=>pv|i+1=>pf i,θ',rfl,rfl,fun i q hi=>?_,e4,by show k1<=kf ks.length;omega,by show kf ks.length<=_;rw[hsz];omega,fun n hn=>?_⟩
  ·match i with
   | 0 =>
    cases hi
    refine⟨g5,fun bm b1 b2 vv=>?_⟩;show zKF bm b1 b2 vv k1 l1 p (tyf 0) pv (kf 0) (lf 0);rw[e1,e2];exact g6 bm b1 b2 vv
   | i+1=>exact e3 i q hi
  ·rw[e7 n (by omega),g4 n hn]
set_option maxHeartbeats 16000000
theorem zBI (l:List AV) (hu:Uni 10 l) (hl:l.length<=1000000):zD Tryz.prog 69 [.sl l] (.sl l):=by
 refine zH ttok mixed Tryz.func69 rfl (by rfl) (Nat.le_of_ble_eq_true rfl) (by kernel_rfl) ?_;cases l with
 | nil=>exact⟨rfl,by simp,by simp[Uni],hu,rfl⟩
 | cons x l=>exact⟨by show 0+(x::l).length<=_;omega,by simp[Uni],hu,rfl⟩
abbrev fns:List AV:=[.lit .nilFunc,.lit (.func (.func 65) #[] #[]),.lit (.func (.func 66) #[] #[]),.lit (.func (.func 67) #[] #[]),.lit (.func (.func 68) #[] #[])]
abbrev fvs:Array Value := #[.nilFunc,.func (.func 65) #[] #[],.func (.func 66) #[] #[],.func (.func 67) #[] #[],.func (.func 68) #[] #[]]
theorem zT7 (a:Act):Instr.fill (fun i=>some (i*1,1)) (Value.agg #[.nilFunc,.nilFunc,.nilFunc,.nilFunc,.nilFunc]).cells (Array.map (fun x:Nat×Operand=>(x.1,a.eval x.2)) #[(1,.func 65),(2,.func 66),(3,.func 67),(4,.func 68)]).toList=some fvs:=by
 simp[Instr.fill,Value.cells,Act.eval]
theorem zGG {o:Oper} (ho:o.op = .build 147 #[(1,.func 65),(2,.func 66),(3,.func 67),(4,.func 68)]) (a:Act) (w:World):(execOp a.eval o).run Tryz.prog w = .ok (.value (.agg fvs)) w:=by
 have h1:Tryz.prog.underlying 147=some (.array 5 145):=rfl;obtain⟨i,h2,h3⟩:∃i,Tryz.prog.info? 147=some i/\i.zero=some (.agg #[.nilFunc,.nilFunc,.nilFunc,.nilFunc,.nilFunc]):=⟨_,rfl,rfl⟩
 obtain⟨i2,h4,h5⟩:∃i,Tryz.prog.info? 145=some i/\i.size=1:=⟨_,rfl,rfl⟩
 unfold execOp;simp only[ho,Instr.build,Sem.run_bind,zEX h2 h3,run_underlying h1,yI h4,h5,Result.andThen_ok,Sem.run_pure,zT7]
theorem zGC (F:Nat->Option Nat) (w:World):RepCells F w fvs.toList fns:=by
 refine⟨rfl,fun j u c hu hc=>?_⟩
 match j with
 | 0=>cases hu;cases hc;exact⟨.lit _ rfl,rfl⟩
 | 1=>cases hu;cases hc;exact⟨.lit _ rfl,rfl⟩
 | 2=>cases hu;cases hc;exact⟨.lit _ rfl,rfl⟩
 | 3=>cases hu;cases hc;exact⟨.lit _ rfl,rfl⟩
 | 4=>cases hu;cases hc;exact⟨.lit _ rfl,rfl⟩
 | j+5=>simp at hu
abbrev zPt:AV := .agg [.lit (.int .i64 0),.lit (.int .i64 0),.lit (.int .i64 0),.lit (.string .empty),.sl [],.lit (.int .i64 0),.lit (.int .i64 0),.lit (.string .empty),.sl [],.sl []]
theorem zAP (h2 h1:List (Nat×HO)):FrzH h2 h1 h1:=⟨rfl,fun i x x' hx hx'=>by rw[hx] at hx';cases hx';exact⟨rfl,.inl rfl⟩⟩
theorem zB6 {A B hin:List (Nat×HO)} (h:keys A=keys hin) (hnd:(keys (A++B)).Nodup):∀b∈keys B,b∉keys hin:=fun b hb hi=>by
 rw[<-h] at hi;have:keys (A++B)=keys A++keys B:=by simp[keys]
 rw[this] at hnd;exact (List.nodup_append.1 hnd).2.2 b hi b hb rfl
theorem zMO (w:Nat) (p:Pt) (hf:p.f=1) (hk:p.k=[]):zDP p w:=by
 intro k l θ t h ht hb;have hep:ePt p = .agg [.lit (.int .i64 1),.lit (.int .i64 0),.lit (.int .i64 p.n),.lit (.string p.s),.sl [],.lit (.int .i64 p.t.form),.lit (.int .i64 p.t.num),.lit (.string p.t.nam),.sl p.t.eArgs,.sl (zN p.ts)]:=by unfold ePt;rw[hf,Pt.eKids_eq,hk];rfl
 have hek:p.eKids=[]:=by rw[Pt.eKids_eq,hk];rfl
 refine⟨k,l,θ,.agg (ptC 1 0 p.n p.s (.sl []) t (.sl [])),h,Nat.le_refl _,Nat.le_add_right _ _,fun _ _=>rfl,⟨_,rfl,rfl,fun c hc=>?_⟩,fun bm b1 b2 vv=>?_⟩
 ·simp[ptC] at hc;rcases hc with rfl|rfl|rfl|rfl|rfl|rfl|rfl|rfl|rfl|rfl<;>rfl
 refine CallsG.freezeH (post:=fun r o hp=>r = .tup [.agg (ptC 1 0 p.n p.s (.sl []) t (.sl [])),at0]/\o=0/\∃bp x,hp=(mkB bm b1 vv::Ck.stH b1 b2 (k:Nat) l)++[(bp,x)]) ?_ (fun r o hp hpo hnd=>?_)
 rotate_left
 ·obtain⟨rfl,rfl,bp,x,rfl⟩:=hpo;exact⟨_,_,_,_,rfl,zB6 rfl hnd,.refl _,rfl,zAP _ _,rfl,rfl,rfl⟩
 refine yB (first:=[]) (cap:=[]) ttok mixed Tryz.func27 rfl (by rfl) rfl (Nat.le_of_ble_eq_true rfl) (by kernel_rfl) ?_;refine Wsem.seq ttok mixed ?_;refine Wsem.seqS (Wsem.regionTab (l:=fns) (vs:=fvs) (zs := #[.nilFunc,.nilFunc,.nilFunc,.nilFunc,.nilFunc]) ttok rfl rfl rfl rfl rfl rfl rfl rfl rfl rfl (by decide) (fun a w=>zGG rfl a w) rfl rfl rfl rfl rfl rfl (by decide) zGC ?_);refine Wsem.shut 8 rfl ?_;refine Wsem.seq ttok mixed ?_;refine Wsem.cut {vs:=[(0,.v (sp bm)),(4,.box 0 (.agg (ptC 1 0 p.n p.s (.sl []) t (.sl [])))),(5,.box 0 (eTy t)),(6,.box 0 zPt),(7,.box 0 at0),(8,.v (.ptr fns))],hp:=mkB bm b1 vv::Ck.stH b1 b2 (k:Nat) l} ⟨⟨rfl,?_,rfl,rfl,rfl,rfl,trivial⟩,trivial,rfl⟩ ?_
 ·show SV.box 0 _=SV.box 0 _;rw[hep];rfl
 refine Wsem.letout 4 rfl (by kernel_rfl) fun bp=>?_;refine Wsem.seqS (Wsem.seqS ?_);refine Wsem.regionTW (DS:=ixS Tryz.prog) (rdS:=zOV) (qF ttok).two (fun _ _ _ h=>zED h) ttok mixed [0,1,4,5,2,3,6,7] [0,0,0,0,2,0,0,0] (by kernel_rfl) ?_;refine⟨3,_,_,rfl,rfl,?_⟩;refine⟨5,145,1,rfl,fun w=>yI (show Tryz.prog.info? 145=some _ from rfl) w,by decide,by decide,?_⟩;refine .inl ⟨_,zUU bm bp t,?_⟩;refine⟨by kernel_rfl,?_⟩;refine Wsem.seq ttok mixed ?_;refine Wsem.of ttok mixed ?_;refine⟨fun h=>absurd h (by decide),fun _=>?_⟩;refine Wsem.seq ttok mixed ?_;refine⟨3,_,_,rfl,rfl,?_⟩;refine .inl ⟨_,zBI [] (by simp[Uni]) (by simp),?_⟩;refine⟨rfl,3,_,rfl,Nat.le_of_ble_eq_true rfl,?_⟩;refine Wsem.seq ttok mixed ?_;refine⟨3,_,_,rfl,rfl,?_⟩;refine⟨fun _=>?_,fun h=>absurd h (by decide)⟩;refine⟨3,_,rfl,Nat.le_of_ble_eq_true rfl,?_⟩;exact⟨rfl,rfl,bp,_,rfl⟩
theorem zN4 (p:Pt) (hf:p.f=3) (hk:p.k=[]):zDP p 0:=by
 intro k l θ t h ht hb;have hep:ePt p = .agg [.lit (.int .i64 3),.lit (.int .i64 0),.lit (.int .i64 p.n),.lit (.string p.s),.sl [],.lit (.int .i64 p.t.form),.lit (.int .i64 p.t.num),.lit (.string p.t.nam),.sl p.t.eArgs,.sl (zN p.ts)]:=by unfold ePt;rw[hf,Pt.eKids_eq,hk];rfl
 have hek:p.eKids=[]:=by rw[Pt.eKids_eq,hk];rfl
 obtain⟨l',hS,hN⟩:=zP5 h ht;refine⟨k,l',θ,.agg (ptC 3 0 p.n p.s (.sl []) t (.sl [])),hS,Nat.le_refl _,Nat.le_add_right _ _,fun _ _=>rfl,⟨_,rfl,rfl,fun c hc=>?_⟩,fun bm b1 b2 vv=>?_⟩
 ·simp[ptC] at hc;rcases hc with rfl|rfl|rfl|rfl|rfl|rfl|rfl|rfl|rfl|rfl<;>rfl
 refine CallsG.freezeH (post:=fun r o hp=>r = .tup [.agg (ptC 3 0 p.n p.s (.sl []) t (.sl [])),at0]/\o=0/\∃bp x,hp=(mkB bm b1 vv::Ck.stH b1 b2 (k:Nat) l')++[(bp,x)]) ?_ (fun r o hp hpo hnd=>?_)
 rotate_left
 ·obtain⟨rfl,rfl,bp,x,rfl⟩:=hpo;exact⟨_,_,_,_,rfl,zB6 rfl hnd,.refl _,rfl,zAP _ _,rfl,rfl,rfl⟩
 refine yB (first:=[]) (cap:=[]) ttok mixed Tryz.func27 rfl (by rfl) rfl (Nat.le_of_ble_eq_true rfl) (by kernel_rfl) ?_;refine Wsem.seq ttok mixed ?_;refine Wsem.seqS (Wsem.regionTab (l:=fns) (vs:=fvs) (zs := #[.nilFunc,.nilFunc,.nilFunc,.nilFunc,.nilFunc]) ttok rfl rfl rfl rfl rfl rfl rfl rfl rfl rfl (by decide) (fun a w=>zGG rfl a w) rfl rfl rfl rfl rfl rfl (by decide) zGC ?_);refine Wsem.shut 8 rfl ?_;refine Wsem.seq ttok mixed ?_;refine Wsem.cut {vs:=[(0,.v (sp bm)),(4,.box 0 (.agg (ptC 3 0 p.n p.s (.sl []) t (.sl [])))),(5,.box 0 (eTy t)),(6,.box 0 zPt),(7,.box 0 at0),(8,.v (.ptr fns))],hp:=mkB bm b1 vv::Ck.stH b1 b2 (k:Nat) l} ⟨⟨rfl,?_,rfl,rfl,rfl,rfl,trivial⟩,trivial,rfl⟩ ?_
 ·show SV.box 0 _=SV.box 0 _;rw[hep];rfl
 refine Wsem.letout 4 rfl (by kernel_rfl) fun bp=>?_;refine Wsem.seqS (Wsem.seqS ?_);refine Wsem.regionTW (DS:=ixS Tryz.prog) (rdS:=zOV) (qF ttok).two (fun _ _ _ h=>zED h) ttok mixed [0,1,4,5,2,3,6,7] [0,0,0,0,2,0,0,0] (by kernel_rfl) ?_;refine⟨3,_,_,rfl,rfl,?_⟩;refine⟨5,145,1,rfl,fun w=>yI (show Tryz.prog.info? 145=some _ from rfl) w,by decide,by decide,?_⟩;refine .inr (.inr (.inr ⟨[0,1,2],_,mkB bm b1 vv::Ck.stH b1 b2 (k:Nat) l',_,rfl,by decide,rfl,hN bm b1 b2 bp vv,?_⟩));refine⟨by kernel_rfl,?_⟩;refine Wsem.seq ttok mixed ?_;refine Wsem.of ttok mixed ?_;refine⟨fun h=>absurd h (by decide),fun _=>?_⟩;refine Wsem.seq ttok mixed ?_;refine⟨3,_,_,rfl,rfl,?_⟩;refine .inl ⟨_,zBI [] (by simp[Uni]) (by simp),?_⟩;refine⟨rfl,3,_,rfl,Nat.le_of_ble_eq_true rfl,?_⟩;refine Wsem.seq ttok mixed ?_;refine⟨3,_,_,rfl,rfl,?_⟩;refine⟨fun _=>?_,fun h=>absurd h (by decide)⟩;refine⟨3,_,rfl,Nat.le_of_ble_eq_true rfl,?_⟩;exact⟨rfl,rfl,bp,_,rfl⟩
def els (pl:Nat->List AV) (l:List AV) (i:Nat):List AV:=(List.range i).map (fun j=>AV.agg (pl j))++l.drop i
theorem zS8 (pl:Nat->List AV) (l:List AV):els pl l 0=l:=by simp[els]
theorem zJ6 {pl:Nat->List AV} {l:List AV} {i:Nat} (h:i<=l.length):(els pl l i).length=l.length:=by simp[els];omega
theorem zKT {pl:Nat->List AV} {l:List AV} {i n:Nat} (hu:Uni n l) (hp:∀j,j<i->(pl j).length=n):Uni n (els pl l i):=fun x hx=>by
 rcases List.mem_append.1 hx with hx|hx
 ·obtain⟨j,hj,rfl⟩:=List.mem_map.1 hx;exact hp j (List.mem_range.1 hj)
 ·exact hu x (List.mem_of_mem_drop hx)
theorem zWO {pl:Nat->List AV} {l:List AV} {i:Nat} (h:i<l.length):(els pl l i)[i]? = l[i]?:=by
 unfold els;rw[List.getElem?_append_right (by simp)];simp
theorem zVU {pl:Nat->List AV} {l:List AV} {i:Nat} (h:i<l.length):(els pl l i).set i (.agg (pl i))=els pl l (i+1):=by
 unfold els;rw[List.set_append_right _ _ (by simp)];simp only[List.length_map,List.length_range,Nat.sub_self];rw[List.drop_eq_getElem_cons h,List.set_cons_zero,List.range_succ,List.map_append];simp
theorem zT4 (pl:Nat->List AV) (l:List AV):els pl l l.length=(List.range l.length).map fun j=>AV.agg (pl j):=by simp[els]
theorem zT0 {pl:Nat->List AV} {ks:List Pt} {i:Nat} (hp:∀j,j<i->(pl j).length=10) (zs:List AV) (h:i<ks.length):((flR (els pl (zG ks) i) zs).drop (i*10)).take 10=(ePt ks[i]).cells:=by
 have hl:i<(zG ks).length:=by rw[zEU];exact h
 have hi:i<(els pl (zG ks) i).length:=by rw[zJ6 (Nat.le_of_lt hl)];exact hl
 have:=zRV (zKT (zDE ks) hp) zs hi 0 10 (by omega);rw[Nat.add_zero] at this;rw[this];have he:(els pl (zG ks) i)[i]=ePt ks[i]:=by
  have h1:=zWO (pl:=pl) hl;rw[List.getElem?_eq_getElem hi,zXW h] at h1;exact Option.some.inj h1
 rw[he]
 rfl
theorem zP8 {pl:Nat->List AV} {ks:List Pt} {i:Nat} (hp:∀j,j<i+1->(pl j).length=10) (zs:List AV) (h:i<ks.length):setAt (flR (els pl (zG ks) i) zs) (i*10) (pl i)=flR (els pl (zG ks) (i+1)) zs:=by
 have hl:i<(zG ks).length:=by rw[zEU];exact h
 have hi:i<(els pl (zG ks) i).length:=by rw[zJ6 (Nat.le_of_lt hl)];exact hl
 have:=zQ5 (zKT (zDE ks) fun j hj=>hp j (by omega)) zs hi (.agg (pl i)) (hp i (by omega));rw[zVU hl] at this;exact this
theorem zVD {pl:Nat->List AV} {ks:List Pt} {b cap:Nat} {zs:List AV} {h:List (Nat×HO)} (hp:∀j,j<ks.length->(pl j).length=10/\∀c∈pl j,c.isCell=true) (hm:(b,HO.cells (flR (els pl (zG ks) ks.length) zs))∈h) (hc:ks.length<=cap):Frz h (.lit (.slice (some ⟨b,0,none⟩) ks.length cap)) (.sl ((List.range ks.length).map fun j=>AV.agg (pl j))):=by
 have he:=zT4 pl (zG ks);rw[zEU] at he;rw[he] at hm;have hu:Uni 10 ((List.range ks.length).map fun j=>AV.agg (pl j)):=fun x hx=>by
  obtain⟨j,hj,rfl⟩:=List.mem_map.1 hx;exact (hp j (List.mem_range.1 hj)).1
 refine .sl b 0 ks.length cap 10 _ _ hm (by simp) hc hu (fun x hx c hcc=>?_) (by rw[zK5 hu];simp) fun i x j c c' hi hj hcc=>?_
 ·obtain⟨j,hj,rfl⟩:=List.mem_map.1 hx;exact (hp j (List.mem_range.1 hj)).2 c hcc
 ·have hil:=(List.getElem?_eq_some_iff.1 hi).1;have hjl:=(List.getElem?_eq_some_iff.1 hj).1;rw[hu x (List.mem_of_getElem? hi)] at hjl;rw[Nat.zero_add,zPX hu zs hil j hjl] at hcc;rw[List.getElem?_eq_getElem hil] at hi;injection hi with hi;subst hi
  rw[hj] at hcc;injection hcc with hcc;subst hcc
  exact .refl _
theorem zN7 (l:List AV) (hu:Uni 10 l) (hl:l.length<=1000000):CallsG Tryz.prog (fnv 69) [] [.sl l] [] (Ck.CloneP l):=by
 cases l with
 | nil=>exact (zBI [] hu hl).lit0 Ck.cloneP0
 | cons x l =>
  refine yB (first:=[]) (cap:=[]) ttok mixed Tryz.func69 rfl (by rfl) rfl (Nat.le_of_ble_eq_true rfl) (by kernel_rfl) ?_;refine Wsem.seq ttok mixed ?_;refine Wsem.seq ttok mixed ?_;refine Wsem.seqS (Wsem.regionB ttok rfl rfl rfl rfl rfl fun b=>?_);refine⟨rfl,by simp,by show 0+(x::l).length<=_;omega,hu,?_⟩;refine⟨0,[],rfl,Nat.le_refl _,rfl,fun b' cap' zs h1 h2=>?_⟩;refine Wsem.of ttok mixed ?_;have:=Ck.cloneP1 (l:=x::l) (by simp) (b:=b') (cap:=cap') (by omega) zs;rw[show (x::l).length=0+(x::l).length by omega] at this;exact this
theorem zNU:∀(l:List AV),l.length=10->∃c0 c1 c2 c3 c4 c5 c6 c7 c8 c9,l=[c0,c1,c2,c3,c4,c5,c6,c7,c8,c9]
 | [c0,c1,c2,c3,c4,c5,c6,c7,c8,c9],_=>⟨c0,c1,c2,c3,c4,c5,c6,c7,c8,c9,rfl⟩
 | [],h=>by simp at h
 | [_],h=>by simp at h
 | [_,_],h=>by simp at h
 | [_,_,_],h=>by simp at h
 | [_,_,_,_],h=>by simp at h
 | [_,_,_,_,_],h=>by simp at h
 | [_,_,_,_,_,_],h=>by simp at h
 | [_,_,_,_,_,_,_],h=>by simp at h
 | [_,_,_,_,_,_,_,_],h=>by simp at h
 | [_,_,_,_,_,_,_,_,_],h=>by simp at h
 | _::_::_::_::_::_::_::_::_::_::_::_,h=>by simp at h
abbrev slB (bk n cap:Nat):AV := .lit (.slice (some ⟨bk,0,none⟩) n cap)
theorem zME (w:Nat) (p:Pt) (fs:List Nat) (hf:p.f=4) (hs:(p.s,fs)∈zL w) (hl:p.k.length=fs.length) (h0:p.k≠[]) (hk:∀(i:Nat) (x:Pt) u,p.k[i]? = some x->fs[i]? = some u->zDP x u):zDP p w:=by
 intro k l θ t h ht hb;have hsz:p.sz=1+szL p.k:=by cases p;rfl
 have hfs3:fs.length<=2:=by
  match w with
  | 0=>simp[zL] at hs
  | 1=>simp[zL] at hs;rcases hs with⟨_,rfl⟩|⟨_,rfl⟩<;>simp
  | 2=>simp[zL] at hs;rcases hs with⟨_,rfl⟩|⟨_,rfl⟩<;>simp
  | 3=>simp[zL] at hs;rcases hs with⟨_,rfl⟩|⟨_,rfl⟩|⟨_,rfl⟩<;>simp
  | 4=>simp[zL] at hs;rcases hs with⟨_,rfl⟩|⟨_,rfl⟩<;>simp
  | n+5=>simp[zL] at hs
 obtain⟨d,kk,fts,k1,l1,θ1,L,hcon,hd,hfl,hd3,hS1,hk1,hk2,he1,hty,hC⟩:=zPW h (by omega) ht hs;have htt:∀(i:Nat),∃tt,∀ft u,fts[i]? = some ft->fs[i]? = some u->TyOk k1 θ1 u tt/\zD Tryz.prog zAK [eTy ft,.sl (eSs d.2.2.1),.sl (zN L)] (eTy tt):=fun i=>by
  rcases Nat.lt_or_ge i fts.length with hi|hi
  ·obtain⟨tt,q1,q2⟩:=hty i fts[i] (fs[i]'(by omega)) (List.getElem?_eq_getElem hi) (List.getElem?_eq_getElem _);refine⟨tt,fun ft u g1 g2=>?_⟩;rw[List.getElem?_eq_getElem hi] at g1;rw[List.getElem?_eq_getElem (by omega)] at g2;injection g1 with g1;injection g2 with g2
   subst g1;subst g2;exact⟨q1,q2⟩
  ·exact⟨.no,fun ft u g1 g2=>by rw[List.getElem?_eq_none hi] at g1;cases g1⟩
 obtain⟨tyf,htyf⟩:=Classical.axiomOfChoice htt;have hat:∀(i:Nat) u,fs[i]? = some u->TyOk k1 θ1 u (tyf i):=fun i u hu=>by
  have hi:=(List.getElem?_eq_some_iff.1 hu).1;exact (htyf i _ u (List.getElem?_eq_getElem (by omega)) hu).1
 obtain⟨kf,lf,pf,θ',e1,e2,e3,hS',hk3,hk4,he2⟩:=seq_ok p.k fs tyf k1 l1 θ1 hl hk hS1 hat (by omega);have hpl:∀(i:Nat),i<p.k.length->pf i = .agg (pf i).cells/\(pf i).cells.length=10/\∀c∈(pf i).cells,c.isCell=true:=fun i hi=>by
  obtain⟨l,q1,q2,q3⟩:=(e3 i _ (List.getElem?_eq_getElem hi)).1;rw[q1];exact⟨rfl,q2,q3⟩
 generalize hplq:(fun i=>(pf i).cells)=pl at *;have hpl1:∀(i:Nat),i<p.k.length->(pl i).length=10/\∀c∈pl i,c.isCell=true:=fun i hi=>by rw[<-hplq];exact (hpl i hi).2
 have hmk:∀(i:Nat) (hi:i<p.k.length) bm b1 b2 vv,zKF bm b1 b2 vv (kf i) (lf i) p.k[i] (tyf i) (.agg (pl i)) (kf (i+1)) (lf (i+1)):=fun i hi bm b1 b2 vv=>by
  have:=(e3 i _ (List.getElem?_eq_getElem hi)).2 bm b1 b2 vv;rw[(hpl i hi).1] at this;rw[<-hplq];exact this
 refine⟨kf p.k.length,lf p.k.length,θ',.agg (ptC 4 0 p.n p.s (.sl ((List.range p.k.length).map fun j=>AV.agg (pl j))) t (.sl (zN L))),hS',by omega,by omega,fun n hn=>by rw[he2 n (by omega),he1 n hn],⟨_,rfl,rfl,fun c hc=>?_⟩,fun bm b1 b2 vv=>?_⟩
 ·simp[ptC] at hc;rcases hc with rfl|rfl|rfl|rfl|rfl|rfl|rfl|rfl|rfl|rfl<;>rfl
 have hkp:(zG p.k).length=p.k.length:=zEU p.k;have hftl:(zN fts).length=p.k.length:=by simp[zN,hfl,hl]
 have hlt:=(List.getElem?_eq_some_iff.1 hd).1;have hgc:(xJ d.2.2.2.2)[((kk:Nat):Int).toNat]? = some (zOQ (p.s,fts)):=by show (xJ d.2.2.2.2)[kk]? = _;unfold xJ;rw[List.getElem?_map,hd];rfl
 have hcl:=zN7 (zG p.k) (zDE _) (by rw[hkp];omega);have hep:ePt p = .agg [.lit (.int .i64 4),.lit (.int .i64 0),.lit (.int .i64 p.n),.lit (.string p.s),.sl (zG p.k),.lit (.int .i64 p.t.form),.lit (.int .i64 p.t.num),.lit (.string p.t.nam),.sl p.t.eArgs,.sl (zN p.ts)]:=by unfold ePt;rw[hf,Pt.eKids_eq]
 refine CallsG.freezeH (post:=fun r o hp=>o=0/\∃bp bk cap zs,p.k.length<=cap/\r = .tup [.agg (ptC 4 0 p.n p.s (slB bk p.k.length cap) t (.sl (zN L))),at0]/\hp=(mkB bm b1 vv::Ck.stH b1 b2 (kf p.k.length:Nat) (lf p.k.length))++[(bp,HO.cells (ptC 4 0 p.n p.s (slB bk p.k.length cap) t (.sl (zN L)))),(bk,HO.cells (flR (els pl (zG p.k) p.k.length) zs))]) ?_ (fun r o hp hpo hnd=>?_)
 rotate_left
 ·obtain⟨rfl,bp,bk,cap,zs,hcap,rfl,rfl⟩:=hpo;refine⟨_,_,_,.tup [.agg (ptC 4 0 p.n p.s (.sl ((List.range p.k.length).map fun j=>AV.agg (pl j))) t (.sl (zN L))),at0],rfl,zB6 rfl hnd,.tup _ _ rfl fun j c c' hc hc'=>?_,rfl,zAP _ _,rfl,rfl,rfl⟩
  match j with
  | 0 =>
   cases hc;cases hc'
   refine .agg _ _ rfl (fun c hc=>?_) fun j c c' hc hc'=>?_
   ·simp[ptC] at hc;rcases hc with rfl|rfl|rfl|rfl|rfl|rfl|rfl|rfl|rfl|rfl<;>rfl
   ·match j with
    | 0=>cases hc;cases hc';exact .refl _
    | 1=>cases hc;cases hc';exact .refl _
    | 2=>cases hc;cases hc';exact .refl _
    | 3=>cases hc;cases hc';exact .refl _
    | 4=>cases hc;cases hc';exact zVD hpl1 (List.mem_cons_of_mem _ (List.mem_singleton.2 rfl)) hcap
    | 5=>cases hc;cases hc';exact .refl _
    | 6=>cases hc;cases hc';exact .refl _
    | 7=>cases hc;cases hc';exact .refl _
    | 8=>cases hc;cases hc';exact .refl _
    | 9=>cases hc;cases hc';exact .refl _
    | j+10=>simp at hc
  | 1=>cases hc;cases hc';exact .refl _
  | j+2=>simp at hc
 refine yB (first:=[]) (cap:=[]) ttok mixed Tryz.func27 rfl (by rfl) rfl (Nat.le_of_ble_eq_true rfl) (by kernel_rfl) ?_;refine Wsem.seq ttok mixed ?_;refine Wsem.seqS (Wsem.regionTab (l:=fns) (vs:=fvs) (zs := #[.nilFunc,.nilFunc,.nilFunc,.nilFunc,.nilFunc]) ttok rfl rfl rfl rfl rfl rfl rfl rfl rfl rfl (by decide) (fun a w=>zGG rfl a w) rfl rfl rfl rfl rfl rfl (by decide) zGC ?_);refine Wsem.shut 8 rfl ?_;refine Wsem.seq ttok mixed ?_;refine Wsem.cut {vs:=[(0,.v (sp bm)),(4,.box 0 (.agg (ptC 4 0 p.n p.s (.sl (zG p.k)) t (.sl [])))),(5,.box 0 (eTy t)),(6,.box 0 zPt),(7,.box 0 at0),(8,.v (.ptr fns))],hp:=mkB bm b1 vv::Ck.stH b1 b2 (k:Nat) l} ⟨⟨rfl,?_,rfl,rfl,rfl,rfl,trivial⟩,trivial,rfl⟩ ?_
 ·show SV.box 0 _=SV.box 0 _;rw[hep];rfl
 refine Wsem.letout 4 rfl (by kernel_rfl) fun bp=>?_;refine Wsem.seqS (Wsem.seqS ?_);refine Wsem.regionTW (DS:=ixS Tryz.prog) (rdS:=zOV) (qF ttok).two (fun _ _ _ h=>zED h) ttok mixed [0,1,4,5,2,3,6,7] [0,0,0,0,2,0,0,0] (by kernel_rfl) ?_;refine⟨3,_,_,rfl,rfl,?_⟩;refine⟨5,145,1,rfl,fun w=>yI (show Tryz.prog.info? 145=some _ from rfl) w,by decide,by decide,?_⟩;refine .inr (.inr (.inr ⟨[0,1,2,3],_,mkB bm b1 vv::(Ck.stH b1 b2 (k1:Nat) l1++[(bp,HO.cells (ptC 4 0 p.n p.s (.sl (zG p.k)) t (.sl (zN L))))]),_,rfl,by decide,rfl,hC bm b1 b2 bp vv p.n p.k t (by omega) (by omega),?_⟩));refine⟨by kernel_rfl,?_⟩;refine Wsem.seq ttok mixed ?_;refine Wsem.of ttok mixed ?_;refine⟨fun h=>absurd h (by decide),fun _=>?_⟩;refine Wsem.seq ttok mixed ?_;refine⟨3,_,_,rfl,rfl,?_⟩;refine .inr (.inr (.inr (.inr (.inr (.inl ⟨[],[],[],_,rfl,List.nodup_nil,rfl,hcl,?_⟩)))));rintro r o' hh ⟨rfl,⟨A,cap,zs⟩,hv,rfl,rfl⟩;have hkpos:0<(zG p.k).length:=by rw[hkp];exact List.length_pos_iff.2 h0
 obtain⟨bk,rfl,hcap⟩:=hv.2 hkpos;rw[show Ck.blk (⟨some ⟨bk,0,none⟩,cap,zs⟩:Ck.VA) (zG p.k).length (flR (zG p.k) zs)=[(bk,HO.cells (flR (zG p.k) zs))] by
  obtain⟨m,hm⟩:∃m,(zG p.k).length=m+1:=⟨(zG p.k).length-1,by omega⟩
  simp[Ck.blk,hm]]
 refine⟨rfl,3,_,rfl,Nat.le_of_ble_eq_true rfl,?_⟩;refine Wsem.cut {vs:=[(0,.v (sp bm)),(4,.v (sp bp)),(6,.box 0 zPt),(7,.box 0 at0)],hp:=mkB bm b1 vv::(Ck.stH b1 b2 (k1:Nat) l1++[(bp,HO.cells (ptC 4 0 p.n p.s (slB bk p.k.length cap) t (.sl (zN L)))),(bk,HO.cells (flR (zG p.k) zs))])} ⟨⟨rfl,rfl,rfl,rfl,trivial⟩,trivial,?_⟩ ?_
 ·show _=mkB bm b1 vv::(Ck.stH b1 b2 (k1:Nat) l1++[(bp,HO.cells (ptC 4 0 p.n p.s (slB bk p.k.length cap) t (.sl (zN L)))),(bk,HO.cells (flR (zG p.k) zs))]);rw[<-hkp];rfl
 refine Wsem.seq ttok mixed ?_;refine⟨3,_,_,rfl,rfl,?_⟩;refine⟨fun h=>absurd h (by decide),fun _=>?_⟩;refine Wsem.seq ttok mixed ?_;refine⟨0,_,_,rfl,rfl,?_⟩;refine⟨3,_,_,rfl,rfl,?_⟩;refine .inl ⟨_,hcon,?_⟩;refine⟨by kernel_rfl,?_⟩;refine Wsem.cut {vs:=[(0,.v (sp bm)),(4,.v (sp bp)),(6,.box 0 zPt),(7,.box 0 at0),(10,.box 0 (eD d)),(11,sv (kk:Nat))],hp:=mkB bm b1 vv::(Ck.stH b1 b2 (k1:Nat) l1++[(bp,HO.cells (ptC 4 0 p.n p.s (slB bk p.k.length cap) t (.sl (zN L)))),(bk,HO.cells (flR (zG p.k) zs))])} ⟨⟨rfl,rfl,rfl,rfl,rfl,rfl,trivial⟩,trivial,rfl⟩ ?_;refine Wsem.seqS (Wsem.seq ttok mixed ?_);refine⟨_,by omega,hgc,rfl,?_⟩;refine Wsem.block (Wsem.loop (α:={i:Nat // i<=p.k.length}) (fun i=>{vs:=[(0,.v (sp bm)),(4,.v (sp bp)),(6,.box 0 zPt),(7,.box 0 at0),(10,.box 0 (eD d)),(60,.v (.sl (zN fts))),(61,sv (p.k.length:Nat)),(62,sv (i.1:Nat))],hp:=mkB bm b1 vv::(Ck.stH b1 b2 (kf i.1:Nat) (lf i.1)++[(bp,HO.cells (ptC 4 0 p.n p.s (slB bk p.k.length cap) t (.sl (zN L)))),(bk,HO.cells (flR (els pl (zG p.k) i.1) zs))])}) (fun i=>p.k.length-i.1) ⟨0,Nat.zero_le _⟩ ⟨⟨rfl,rfl,rfl,rfl,rfl,rfl,?_,rfl,trivial⟩,trivial,?_⟩ ?_)
 ·show sv _=sv _;rw[<-hftl]
 ·show _=mkB bm b1 vv::(Ck.stH b1 b2 (kf 0:Nat) (lf 0)++_);rw[e1,e2,zS8];rfl
 rintro⟨i,hi⟩;refine Wsem.seq ttok mixed ?_;refine Wsem.seq ttok mixed ?_;refine⟨fun hlt=>?_,fun hge=>?_⟩
 ·have hi:i<p.k.length:=by simp at hlt;omega
  have hif:i<fts.length:=by omega
  refine Wsem.seqS (Wsem.block ?_);refine Wsem.seq ttok mixed ?_;refine⟨eTy fts[i],by omega,zLP hif,rfl,?_⟩;refine Wsem.seq ttok mixed ?_;refine⟨3,_,_,rfl,rfl,?_⟩;refine⟨by omega,(by show ((i:Nat):Int)<(p.k.length:Nat);omega),?_⟩;have hil:i<(els pl (zG p.k) i).length:=by rw[zJ6 (by rw[hkp];omega),hkp];exact hi
  have hui:Uni 10 (els pl (zG p.k) i):=zKT (zDE _) fun j hj=>(hpl1 j (by omega)).1;have hfit:=zT6 hui zs hil 0 10 (by omega);refine⟨4,_,rfl,?_,?_⟩
  ·show 0+((i:Nat):Int).toNat*10+10<=(flR (els pl (zG p.k) i) zs).length;rw[Int.toNat_natCast];omega
  refine⟨3,_,_,rfl,rfl,?_⟩;have hsub:=(htyf i _ _ (List.getElem?_eq_getElem hif) (List.getElem?_eq_getElem (by omega))).2;refine .inl ⟨_,hsub,?_⟩;have hmki:=hmk i hi bm b1 b2 vv;obtain⟨c0,c1,c2,c3,c4,c5,c6,c7,c8,c9,hpi⟩:=zNU _ (hpl1 i hi).1;rw[hpi] at hmki;have hrd:AV.agg (List.take 10 (List.drop (0+((i:Nat):Int).toNat*10) (flR (els pl (zG p.k) i) zs)))=ePt p.k[i]:=by
   rw[Int.toNat_natCast,Nat.zero_add,zT0 (fun j hj=>(hpl1 j (by omega)).1) zs hi];rfl
  refine .inr (.inr (.inr ⟨[0,1,2],_,mkB bm b1 vv::Ck.stH b1 b2 (kf (i+1):Nat) (lf (i+1)),.tup [.agg [c0,c1,c2,c3,c4,c5,c6,c7,c8,c9],at0],rfl,by decide,rfl,?_,?_⟩))
  ·show CallsG Tryz.prog (fnv 27) (mkB bm b1 vv::Ck.stH b1 b2 (kf i:Nat) (lf i)) [sp bm,wk (AV.agg (List.take 10 (List.drop (0+((i:Nat):Int).toNat*10) (flR (els pl (zG p.k) i) zs)))),eTy (tyf i)] [] _;rw[hrd];exact hmki
  refine⟨by kernel_rfl,?_⟩;refine Wsem.seq ttok mixed ?_;refine⟨fun h=>absurd h (by decide),fun _=>?_⟩;refine Wsem.of ttok mixed ?_;refine⟨3,_,_,rfl,rfl,?_⟩;refine⟨by omega,(by show ((i:Nat):Int)<(p.k.length:Nat);omega),?_⟩;refine⟨rfl,4,_,rfl,?_,?_⟩
  ·show 0+((i:Nat):Int).toNat*10+10<=(flR (els pl (zG p.k) i) zs).length;rw[Int.toNat_natCast];omega
  refine Wsem.of ttok mixed ?_;refine⟨⟨i+1,hi⟩,(show p.k.length-(i+1)<p.k.length-i by omega),⟨rfl,rfl,rfl,rfl,rfl,rfl,rfl,?_,trivial⟩,trivial,?_⟩
  ·exact congrArg (fun l=>SV.v (AV.lit (Value.int .i64 l))) (wrap_succ (k:=i) (by omega))
  ·have hw:=zP8 (pl:=pl) (fun j hj=>(hpl1 j (by omega)).1) zs hi;rw[hpi] at hw;show mkB bm b1 vv::(Ck.stH b1 b2 (kf (i+1):Nat) (lf (i+1))++[(bp,HO.cells (ptC 4 0 p.n p.s (slB bk p.k.length cap) t (.sl (zN L)))),(bk,HO.cells (setAt (flR (els pl (zG p.k) i) zs) (0+((i:Nat):Int).toNat*10) [c0,c1,c2,c3,c4,c5,c6,c7,c8,c9]))])=_;rw[Int.toNat_natCast,Nat.zero_add,hw]
 ·obtain rfl:i=p.k.length:=by simp at hge;omega
  refine Wsem.of ttok mixed ?_;refine⟨3,_,rfl,Nat.le_of_ble_eq_true rfl,?_⟩;refine⟨rfl,bp,bk,cap,zs,by rw[<-hkp];exact hcap,rfl,rfl⟩
theorem zLX (w:Nat) (p:Pt) (fs:List Nat) (hf:p.f=4) (hs:(p.s,fs)∈zL w) (hl:p.k.length=fs.length) (h0:p.k=[]):zDP p w:=by
 intro k l θ t h ht hb;have hsz:p.sz=1+szL p.k:=by cases p;rfl
 obtain⟨d,kk,fts,k1,l1,θ1,L,hcon,hd,hfl,hd3,hS1,hk1,hk2,he1,hty,hC⟩:=zPW h (by omega) ht hs;refine⟨k1,l1,θ1,.agg (ptC 4 0 p.n p.s (.sl []) t (.sl (zN L))),hS1,by omega,by omega,he1,⟨_,rfl,rfl,fun c hc=>?_⟩,fun bm b1 b2 vv=>?_⟩
 ·simp[ptC] at hc;rcases hc with rfl|rfl|rfl|rfl|rfl|rfl|rfl|rfl|rfl|rfl<;>rfl
 have hftl:(zN fts).length=0:=by simp[zN,hfl,<-hl,h0]
 have hlt:=(List.getElem?_eq_some_iff.1 hd).1;have hgc:(xJ d.2.2.2.2)[((kk:Nat):Int).toNat]? = some (zOQ (p.s,fts)):=by show (xJ d.2.2.2.2)[kk]? = _;unfold xJ;rw[List.getElem?_map,hd];rfl
 have hC':=fun bp=>hC bm b1 b2 bp vv p.n [] t (by rw[hfl,<-hl,h0]) (by simp);have hep:ePt p = .agg [.lit (.int .i64 4),.lit (.int .i64 0),.lit (.int .i64 p.n),.lit (.string p.s),.sl [],.lit (.int .i64 p.t.form),.lit (.int .i64 p.t.num),.lit (.string p.t.nam),.sl p.t.eArgs,.sl (zN p.ts)]:=by unfold ePt;rw[hf,Pt.eKids_eq,h0];rfl
 refine CallsG.freezeH (post:=fun r o hp=>r = .tup [.agg (ptC 4 0 p.n p.s (.sl []) t (.sl (zN L))),at0]/\o=0/\∃bp x,hp=(mkB bm b1 vv::Ck.stH b1 b2 (k1:Nat) l1)++[(bp,x)]) ?_ (fun r o hp hpo hnd=>?_)
 rotate_left
 ·obtain⟨rfl,rfl,bp,x,rfl⟩:=hpo;exact⟨_,_,_,_,rfl,zB6 rfl hnd,.refl _,rfl,zAP _ _,rfl,rfl,rfl⟩
 refine yB (first:=[]) (cap:=[]) ttok mixed Tryz.func27 rfl (by rfl) rfl (Nat.le_of_ble_eq_true rfl) (by kernel_rfl) ?_;refine Wsem.seq ttok mixed ?_;refine Wsem.seqS (Wsem.regionTab (l:=fns) (vs:=fvs) (zs := #[.nilFunc,.nilFunc,.nilFunc,.nilFunc,.nilFunc]) ttok rfl rfl rfl rfl rfl rfl rfl rfl rfl rfl (by decide) (fun a w=>zGG rfl a w) rfl rfl rfl rfl rfl rfl (by decide) zGC ?_);refine Wsem.shut 8 rfl ?_;refine Wsem.seq ttok mixed ?_;refine Wsem.cut {vs:=[(0,.v (sp bm)),(4,.box 0 (.agg (ptC 4 0 p.n p.s (.sl []) t (.sl [])))),(5,.box 0 (eTy t)),(6,.box 0 zPt),(7,.box 0 at0),(8,.v (.ptr fns))],hp:=mkB bm b1 vv::Ck.stH b1 b2 (k:Nat) l} ⟨⟨rfl,?_,rfl,rfl,rfl,rfl,trivial⟩,trivial,rfl⟩ ?_
 ·show SV.box 0 _=SV.box 0 _;rw[hep];rfl
 refine Wsem.letout 4 rfl (by kernel_rfl) fun bp=>?_;refine Wsem.seqS (Wsem.seqS ?_);refine Wsem.regionTW (DS:=ixS Tryz.prog) (rdS:=zOV) (qF ttok).two (fun _ _ _ h=>zED h) ttok mixed [0,1,4,5,2,3,6,7] [0,0,0,0,2,0,0,0] (by kernel_rfl) ?_;refine⟨3,_,_,rfl,rfl,?_⟩;refine⟨5,145,1,rfl,fun w=>yI (show Tryz.prog.info? 145=some _ from rfl) w,by decide,by decide,?_⟩;refine .inr (.inr (.inr ⟨[0,1,2,3],_,mkB bm b1 vv::(Ck.stH b1 b2 (k1:Nat) l1++[(bp,HO.cells (ptC 4 0 p.n p.s (.sl (zG [])) t (.sl (zN L))))]),_,rfl,by decide,rfl,hC' bp,?_⟩));refine⟨by kernel_rfl,?_⟩;refine Wsem.seq ttok mixed ?_;refine Wsem.of ttok mixed ?_;refine⟨fun h=>absurd h (by decide),fun _=>?_⟩;refine Wsem.seq ttok mixed ?_;refine⟨3,_,_,rfl,rfl,?_⟩;refine .inl ⟨_,zBI [] (by simp[Uni]) (by simp),?_⟩;refine⟨rfl,3,_,rfl,Nat.le_of_ble_eq_true rfl,?_⟩;refine Wsem.cut {vs:=[(0,.v (sp bm)),(4,.v (sp bp)),(6,.box 0 zPt),(7,.box 0 at0)],hp:=mkB bm b1 vv::(Ck.stH b1 b2 (k1:Nat) l1++[(bp,HO.cells (ptC 4 0 p.n p.s (.sl []) t (.sl (zN L))))])} ⟨⟨rfl,rfl,rfl,rfl,trivial⟩,trivial,rfl⟩ ?_;refine Wsem.seq ttok mixed ?_;refine⟨3,_,_,rfl,rfl,?_⟩;refine⟨fun h=>absurd h (by decide),fun _=>?_⟩;refine Wsem.seq ttok mixed ?_;refine⟨0,_,_,rfl,rfl,?_⟩;refine⟨3,_,_,rfl,rfl,?_⟩;refine .inl ⟨_,hcon,?_⟩;refine⟨by kernel_rfl,?_⟩
 refine Wsem.cut {vs:=[(0,.v (sp bm)),(4,.v (sp bp)),(6,.box 0 zPt),(7,.box 0 at0),(10,.box 0 (eD d)),(11,sv (kk:Nat))],hp:=mkB bm b1 vv::(Ck.stH b1 b2 (k1:Nat) l1++[(bp,HO.cells (ptC 4 0 p.n p.s (.sl []) t (.sl (zN L))))])} ⟨⟨rfl,rfl,rfl,rfl,rfl,rfl,trivial⟩,trivial,rfl⟩ ?_;refine Wsem.seqS (Wsem.seq ttok mixed ?_);refine⟨_,by omega,hgc,rfl,?_⟩;refine Wsem.block (Wsem.loop (α:=Unit) (fun _=>{vs:=[(0,.v (sp bm)),(4,.v (sp bp)),(6,.box 0 zPt),(7,.box 0 at0),(61,sv 0),(62,sv 0)],hp:=mkB bm b1 vv::(Ck.stH b1 b2 (k1:Nat) l1++[(bp,HO.cells (ptC 4 0 p.n p.s (.sl []) t (.sl (zN L))))])}) (fun _=>0) () ⟨⟨rfl,rfl,rfl,rfl,?_,rfl,trivial⟩,trivial,rfl⟩ ?_)
 ·show sv ((zN fts).length:Nat)=sv 0;rw[hftl];rfl
 rintro⟨⟩;refine Wsem.seq ttok mixed ?_;refine Wsem.seq ttok mixed ?_;refine⟨fun h=>absurd h (by decide),fun _=>?_⟩;refine Wsem.of ttok mixed ?_;refine⟨3,_,rfl,Nat.le_of_ble_eq_true rfl,?_⟩;exact⟨rfl,rfl,bp,_,rfl⟩
theorem zPV:∀(N:Nat) (p:Pt) (w:Nat),p.sz<=N->TyM w p->zDP p w
 | 0,p,w,hN,h=>by
  have:p.sz=1+szL p.k:=by cases p;rfl
  omega
 | N+1,p,w,hN,h=>by
  have hsz:p.sz=1+szL p.k:=by cases p;rfl
  cases h with
  | any _ _ hf hk=>exact zMO w p hf hk
  | int _ hf hk=>exact zN4 p hf hk
  | con _ _ fs hf hs hl hk =>
   by_cases h0:p.k=[]
   ·exact zLX w p fs hf hs hl h0
   ·refine zME w p fs hf hs hl h0 fun i x u hx hu=>zPV N x u ?_ (hk i x u hx hu);have:=zTL (List.mem_of_getElem? hx);omega
theorem zVY {a:AV} (h:zSS a):zSS (wk a):=by
 obtain⟨l,rfl,hl,hc⟩:=h;unfold wk;cases zE0 (.agg l) with
 | false=>exact⟨l,rfl,hl,hc⟩
 | true =>
  refine⟨l.map wk1,rfl,by simpa using hl,fun c hc'=>?_⟩;obtain⟨x,hx,rfl⟩:=List.mem_map.1 hc';have:=hc x hx;unfold wk1;split<;>first|rfl|exact this
theorem zXH {p:Pt} {w:Nat} (h:TyM w p) (hsz:p.sz<=300):∃(k':Nat) (l':Ck.Kn) (pv:AV),zSS pv/\∀b1 b2,CallsG Tryz.prog (fnv 10) (Ck.stH b1 b2 0 []) [cAV,sp b1,ePt p,eTy (wTy w)] [] fun r o hp=>r = .tup [pv,.sl [],at0]/\o=0/\hp=Ck.stH b1 b2 (k':Nat) l':=by
 have h0:StOk 0 [] (fun _ => .con zE7):=⟨Ck.ok_nil,fun q hq=>by simp at hq,fun n t hn=>by simp at hn,fun q hq=>by simp at hq,fun n=>by simp[Ck.tsz]⟩
 obtain⟨k',l',θ',pv,_,_,_,_,hpv,hm⟩:=zPV _ p w (Nat.le_refl _) h 0 [] _ (wTy w) h0 (zRX _ _ _) (by omega);refine⟨k',l',wk pv,zVY hpv,fun b1 b2=>?_⟩;obtain⟨pl,rfl,hl,_⟩:=hpv;obtain⟨c0,c1,c2,c3,c4,c5,c6,c7,c8,c9,rfl⟩:=zNU _ hl;refine CallsG.freezeH (post:=fun r o hp=>r = .tup [wk (.agg [c0,c1,c2,c3,c4,c5,c6,c7,c8,c9]),.sl [],at0]/\o=0/\∃bm x,hp=Ck.stH b1 b2 (k':Nat) l'++[(bm,x)]) ?_ (fun r o hp hpo hnd=>?_)
 rotate_left
 ·obtain⟨rfl,rfl,bp,x,rfl⟩:=hpo;exact⟨_,_,_,_,rfl,zB6 rfl hnd,.refl _,rfl,zAP _ _,rfl,rfl,rfl⟩
 refine yB (first:=[]) (cap:=[]) ttok mixed Tryz.func10 rfl (by rfl) rfl (Nat.le_of_ble_eq_true rfl) (by kernel_rfl) ?_;refine Wsem.seq ttok mixed ?_;refine Wsem.seq ttok mixed ?_;refine .inr ⟨rfl,fun bm=>?_⟩;refine Wsem.seq ttok mixed ?_;have hmk:=hm bm b1 b2 .nil;refine .inr (.inr (.inr (.inl ⟨[2,0,1],_,mkB bm b1 .nil::Ck.stH b1 b2 (k':Nat) l',_,rfl,by decide,rfl,hmk,?_⟩)));refine Wsem.seq ttok mixed ?_;refine⟨fun h=>absurd h (by decide),fun _=>?_⟩;refine Wsem.of ttok mixed ?_;refine⟨2,_,_,rfl,rfl,?_⟩;refine⟨by kernel_rfl,?_⟩;exact⟨rfl,rfl,bm,_,rfl⟩
theorem zRG {l:List Int} {ps:List Pt} {t:Nat} (hP:zD Tryz.prog wP [.sl (eIs l)] (.tup [.sl (zG ps),.lit (.int .i64 (t:Nat))])) (ht:t<5) (hok:PatsOk t ps) {p:Pt} (hm:zBY ps=some [p]):zD Tryz.prog 3 [.sl (eIs l)] (.sb true):=by
 obtain⟨h1,h2⟩:=zON hok hm;obtain⟨k',l',pv,hpv,hpat⟩:=zXH h1 h2;obtain⟨pl,rfl,hl,_⟩:=hpv;obtain⟨c0,c1,c2,c3,c4,c5,c6,c7,c8,c9,rfl⟩:=zNU _ hl;have hM:=jI hok;rw[hm] at hM;have hT:=zJU t ht;refine CallsG.pure (post:=fun r o h=>r = .sb true/\o=0) ?_ (fun r o h ⟨e1,e2⟩=>⟨by rw[e1];exact .refl _,e2⟩);refine yB (first:=[]) (cap:=[]) ttok mixed Tryz.func3 rfl (by rfl) rfl (Nat.le_of_ble_eq_true rfl) (by kernel_rfl) ?_;refine Wsem.seq ttok mixed ?_;refine Wsem.seq ttok mixed ?_;refine .inl ⟨_,hP,?_⟩;refine Wsem.seq ttok mixed ?_;refine .inl ⟨_,zDK,.inl ⟨_,new_ok,?_⟩⟩;refine Wsem.seq ttok mixed ?_;refine .inl ⟨_,hM,?_⟩;refine Wsem.seq ttok mixed ?_;refine⟨fun h=>absurd h (by decide),fun _=>?_⟩;refine Wsem.seqS ?_;refine Wsem.regionTZ (OA:=zKG Tryz.prog) zJY ttok mixed [0,2,3,10,11,1,4,5,6,7,8,9,12,13,14] [0,0,0,0,0,1] (by kernel_rfl) ?_;refine⟨[],[],[],_,rfl,List.nodup_nil,rfl,Ck.new_ok,⟨_,_,_,rfl,0,0,rfl,rfl⟩,?_⟩;rintro r w hout ⟨rfl,b1,b2,rfl,rfl⟩;refine .inl ⟨_,hT,?_⟩;refine .inr (.inr (.inr ⟨[0,1],_,Ck.stH b1 b2 (k':Nat) l',_,rfl,by decide,rfl,hpat b1 b2,?_⟩));refine⟨by kernel_rfl,?_⟩;refine Wsem.of ttok mixed ?_;refine⟨fun hbs=>?_,fun hbs=>?_⟩<;>first|(exfalso;revert hbs;decide)|skip
 refine⟨fun hbs=>?_,fun hbs=>?_⟩<;>first|(exfalso;revert hbs;decide)|skip
 refine .inl ⟨_,zLV,?_⟩;exact⟨rfl,rfl⟩
theorem zRP {l:List Int} {ps:List Pt} {t:Nat} (hP:zD Tryz.prog wP [.sl (eIs l)] (.tup [.sl (zG ps),.lit (.int .i64 (t:Nat))])) (ht:t<5) (hM:zD Tryz.prog zBK [cAV,.sl (zG ps)] (.tup [ePt zWH,.sb false])):zD Tryz.prog 3 [.sl (eIs l)] (.sb true):=by
 refine zGW ttok mixed Tryz.func3 rfl (by rfl) (Nat.le_of_ble_eq_true rfl) (by kernel_rfl) ?_;refine Wsem0.seq ttok mixed ?_;refine Wsem0.seq ttok mixed ?_;refine .inl ⟨_,hP,?_⟩;refine Wsem0.seq ttok mixed ?_;refine .inl ⟨_,zDK,.inl ⟨_,new_ok,?_⟩⟩;refine Wsem0.seq ttok mixed ?_;refine .inl ⟨_,hM,?_⟩;refine Wsem0.seq ttok mixed ?_;refine⟨fun _=>?_,fun h=>absurd h (by decide)⟩;refine .inl ⟨_,zLV,?_⟩;exact rfl
theorem zII {l:List Int} (hl:l.length<9223372036854775808) (hr:∀x∈l,InR x):zD Tryz.prog 3 [.sl (eIs l)] (.sb true):=by
 obtain⟨ps,t,hP,ht,hlen,hps⟩:=zV1 hr hl;have hok:PatsOk t ps:=⟨ht,by omega,hps⟩
 have hM:=jI hok;cases hm:zBY ps with
 | none=>rw[hm] at hM;exact zRP hP ht hM
 | some m =>
  have h1:=(zBP 300 (yC 0 ps) [t] m hok.all hm).1
  match m,h1 with
  | [p],_=>exact zRG hP ht hok hm
  | [],h1=>simp at h1
  | _::_::_,h1=>simp at h1
end Go.Proofs.YtebmimnglcdogaaGreatDoor
