/- The document's alt: what an alternative takes. No condition but on lengths. -/
import Derived.Test.YtdmbahepaglcbaaGreatDoorAD
import Derived.Test.YtdmbahepaglcbaaGreatDoorFpE
import Derived.Test.YtdmbahepaglcbaaGreatDoorAB
set_option linter.unusedSimpArgs false
set_option linter.unusedVariables false
namespace Go.Proofs.YtdmbahepaglcbaaGreatDoor
open Go Fp
set_option maxRecDepth 10000
set_option maxHeartbeats 8000000
set_option linter.unusedVariables false
set_option maxHeartbeats 16000000
def nm4 (i:Nat):ByteArray:=if i=0 then ⟨#[120]⟩ else if i=1 then ⟨#[121]⟩ else if i=2 then ⟨#[97]⟩ else ⟨#[122,64,49]⟩
def nmL (F:Nat->Tp) (k:Nat):List Nm2:=(List.range k).map fun i=>(nm4 i,F i)
theorem zT7 (F:Nat->Tp) (k:Nat):nmL F (k+1)=nmL F k++[(nm4 k,F k)]:=by simp[nmL,List.range_succ]
theorem z6J {env:List (List Int)} (hl:env.length<9223372036854775808) (hr:∀r∈env,(∀x∈r,InR x)/\r.length<9223372036854775808) :
  ∃L:List Nm2,zF Tryz.prog 9 [.sl (zEB env)] (.tup [.sl (xW L),.sl (xW L)])/\L.length<=4/\∀x∈L,good x.2/\x.2.sz<=193/\x.1∈[(⟨#[120]⟩:ByteArray),⟨#[121]⟩,⟨#[97]⟩,⟨#[122,64,49]⟩]:=by
 obtain⟨F,hF⟩:∃F:Nat->Tp,∀k (h:k<env.length),zF Tryz.prog zAA [.sl (eIs env[k])] (eTy (F k))/\good (F k)/\(F k).sz<=193:=by
  have hex:∀k (h:k<env.length),∃t:Tp,zF Tryz.prog zAA [.sl (eIs env[k])] (eTy t)/\good t/\t.sz<=193:=fun k h=>have q:=hr _ (List.getElem_mem h);za5 q.2 q.1;exact⟨fun k=>if h:k<env.length then Classical.choose (hex k h) else .no,fun k h=>by dsimp only;rw[dif_pos h];exact Classical.choose_spec (hex k h)⟩
 have hlen:(zEB env).length=env.length:=by simp[zEB]
 refine⟨nmL F (min 4 env.length),?_,by simp[nmL];omega,fun x hx=>?_⟩
 ·refine zG ttok mixed Tryz.func9 rfl (by rfl) (Nat.le_of_ble_eq_true rfl) (by kernel_rfl) ?_;refine⟨{k:Nat // k<=4/\k<=env.length},fun k=>{vs:=[(0,.v (.sl (zEB env))),(4,.v (.sl (xW (nmL F k.1)))),(5,.v (.sl (xW (nmL F k.1)))),(6,sv (k.1:Nat))],ow:=[(4,0,6),(5,0,6)]},
   fun k=>4-k.1,⟨0,by decide,Nat.zero_le _⟩,⟨⟨rfl,rfl,rfl,rfl,trivial⟩,⟨trivial,trivial,trivial⟩,rfl⟩,?_⟩
  rintro⟨k,hk4,hk⟩;have out:¬(k<env.length/\k<4)->k=min 4 env.length:=fun h=>by omega
  have hNl:(xW (nmL F k)).length=k:=by simp[xW,nmL]
  refine⟨fun h1=>?_,fun h1=>?_⟩
  ·have h1:k<env.length:=by have h:=of_decide_eq_true h1;rw[hlen] at h;simp only at h;omega
   refine⟨fun h2=>?_,fun h2=>?_⟩
   ·have h2:k<4:=by have h:=of_decide_eq_true h2;simp only at h;omega
    have hrow:(zEB env)[((k:Nat):Int).toNat]? = some (.sl (eIs env[k])):=by simp[zEB,h1]
    have hnm:[str ⟨#[120]⟩,str ⟨#[121]⟩,str ⟨#[97]⟩,str ⟨#[122,64,49]⟩][((k:Nat):Int).toNat]? = some (str (nm4 k)):=by
     match k,h2 with
     | 0,_=>rfl
     | 1,_=>rfl
     | 2,_=>rfl
     | 3,_=>rfl
    have hm:=hF k h1;refine⟨_,by omega,hrow,rfl,?_⟩;refine .inl ⟨_,hm.1,?_⟩;refine⟨_,by omega,hnm,rfl,?_⟩;refine⟨by rw[hNl];simp;omega,zBG _,zBG [(nm4 k,F k)],?_⟩;refine⟨by rw[hNl];simp;omega,zBG _,zBG [(nm4 k,F k)],?_⟩;refine⟨⟨k+1,by omega,by omega⟩,by simp;omega,⟨rfl,?_,?_,svc (wrap_succ (k:=k) (by omega)),trivial⟩,⟨rfl,rfl,trivial⟩,rfl⟩
    ·show _=SV.v (.sl (xW (nmL F (k+1))));rw[zT7];simp[xW];rfl
    ·show _=SV.v (.sl (xW (nmL F (k+1))));rw[zT7];simp[xW];rfl
   ·have h2:¬k<4:=by have h:=of_decide_eq_false h2;simp only at h;omega
    rw[<-out (by omega)];exact rfl
  ·have h1:¬k<env.length:=by have h:=of_decide_eq_false h1;rw[hlen] at h;simp only at h;omega
   rw[<-out (by omega)];exact rfl
 ·obtain⟨i,hi,rfl⟩:=List.mem_map.1 hx;have hi:i<min 4 env.length:=by simpa using hi
  have hm:=hF i (by omega);refine⟨hm.2.1,hm.2.2,?_⟩;have h4:i<4:=by omega
  match i,h4 with
  | 0,_=>exact (by decide:nm4 0∈[(⟨#[120]⟩:ByteArray),⟨#[121]⟩,⟨#[97]⟩,⟨#[122,64,49]⟩])
  | 1,_=>exact (by decide:nm4 1∈[(⟨#[120]⟩:ByteArray),⟨#[121]⟩,⟨#[97]⟩,⟨#[122,64,49]⟩])
  | 2,_=>exact (by decide:nm4 2∈[(⟨#[120]⟩:ByteArray),⟨#[121]⟩,⟨#[97]⟩,⟨#[122,64,49]⟩])
  | 3,_=>exact (by decide:nm4 3∈[(⟨#[120]⟩:ByteArray),⟨#[121]⟩,⟨#[97]⟩,⟨#[122,64,49]⟩])
theorem z6O {K:Nat} (t:Tp):∀x:List ByteArray,GdD K (db t x.reverse)->x.length+dp t<=1000000->(nl t x).size+3<=(K+20)*t.sz:=by
 induction t with
 | no=>intro x h;exact h.elim
 | mt n =>
  intro x ⟨k,h1,h2⟩ _;subst h1;have:=xP 1 k (by omega) (by decide);simp only[nl,ByteArray.size_append,Tp.sz,Int.toNat_natCast];show 1+_+3<=_;omega
 | con s=>intro x h _;simp only[nl,Tp.sz];have h:s.size<=K:=h;omega
 | var s =>
  intro x h hl;simp only[nl,Tp.sz] at hl⊢;rcases qN s x.reverse with⟨h1,h2⟩|⟨h1,h2⟩
  ·rw[if_pos (zS (List.mem_reverse.1 h1))];have:=zI1 h1;rw[List.length_reverse] at this;have:=xP 7 (ixN x.reverse s) (by omega) (by decide);rw[ByteArray.size_append];show 1+_+3<=_;omega
  ·rw[h2] at h;have h:s.size<=K:=h;rw[yM fun q=>h1 (List.mem_reverse.2 q)];simp only[Bool.false_eq_true,if_false];rw[ByteArray.size_append];show 1+_+3<=_;omega
 | app a b iha ihb =>
  intro x h hl;simp only[dp] at hl;have h1:=iha x h.1 (by omega);have h2:=ihb x h.2 (by omega);simp only[nl,ByteArray.size_append,Tp.sz,Nat.mul_add];show 1+_+1+_+1+3<=_;omega
 | all s a ih =>
  intro x h hl;simp only[dp] at hl;have h1:=ih (x++[s]) (by rw[List.reverse_append];exact h) (by simp;omega);simp only[nl,ByteArray.size_append,Tp.sz,Nat.mul_add];show 1+_+1+3<=_;omega
theorem zSX {K:Nat}:∀{t:Tp} {e:List ByteArray},GdD K (db t e)->NmX t
 | .app a b,e,h=>⟨zSX h.1,zSX h.2⟩
 | .all _ a,e,h=>zSX (t:=a) h
 | .mt _,_,h=>h
 | .con _,_,_=>trivial
 | .var _,_,_=>trivial
 | .no,_,h=>h
theorem zXD {a b:Tp} (h:db a []=db b []) (hg:GdD 20 (db a [])) (hz:zb (db a [])<=2 ^ 52) (hda:dp a<=900000) (hdb:dp b<=900000):zF Tryz.prog qI [eTy a,eTy b] (.sb true):=by
 have h1:=z6O a [] hg (by simp;omega);have h2:=z6O b [] (h ▸ hg) (by simp;omega);rw[zG3] at hz;have hzb:b.sz=a.sz:=by rw[<-zG3 a [],<-zG3 b [],h]
 rw[hzb] at h2;have m1:(20+20)*a.sz<=40*2 ^ 52:=Nat.mul_le_mul_left 40 hz;have h3:=zPX (zSX hg) (zSX (h ▸ hg)) hda hdb (by omega) (by omega);have e:nl a []=nl b []:=by
  refine zQ5 ?_;rw[zI0,zI0];show ser (db a [])=ser (db b []);rw[h]
 rw[decide_eq_true e] at h3;exact h3
def Stb (nm nm':ByteArray->Option Db) (φ:DW->Option Db):Prop := ∀W:DW,W.nm=nm->φ {W with nm:=nm'} = φ W
theorem zTF (W:DW) (nm':ByteArray->Option Db) (u:Db) (h:Int×Int×ByteArray) (k:Nat):jZ {W with nm:=nm'} u h k=(jZ W u h k).map fun W=>{W with nm:=nm'}:=by
 unfold jZ;split
 ·rfl
 ·split
  ·split<;>rfl
  ·split
   ·show (match wW W.fs h.2.2 with|none=>none|some f=>_)=Option.map _ (match wW W.fs h.2.2 with|none=>none|some f=>_);cases wW W.fs h.2.2 with
    | none=>rfl
    | some f =>
     simp only;cases qF f with
     | none=>rfl
     | some q =>
      obtain⟨l,n,vs⟩:=q;simp only;split<;>rfl
   ·rfl
theorem zMF {W W':DW} {u:Db} {h:Int×Int×ByteArray} {k:Nat} (ht:jZ W u h k=some W'):W'.nm=W.nm:=by
 unfold jZ at ht;split at ht
 ·cases ht;rfl
 ·split at ht
  ·split at ht
   ·cases ht;rfl
   ·cases ht
  ·split at ht
   ·split at ht
    ·cases ht
    ·split at ht
     ·cases ht
     ·split at ht
      ·cases ht;rfl
      ·cases ht
   ·cases ht
theorem z3R {nm nm':ByteArray->Option Db} {f:Int} {s:ByteArray} {t:Db} {g:DR} (hk:∀φ∈g.kd,Stb nm nm' φ) (hb:∀b∈g.bd,Stb nm nm' b.2) (ha:∀a∈g.al,Stb nm nm' a.2.2):Stb nm nm' (zA2 f s t g):=by
 intro W hW;have hmo:∀l,({W with nm:=nm'}:DW).mores l={W.mores l with nm:=nm'}:=fun _=>rfl;have hme:∀t,({W with nm:=nm'}:DW).mean t=W.mean t:=fun _=>rfl;unfold zA2;simp only[hme,hmo];by_cases h2:f=2
 ·rw[if_pos h2,if_pos h2]
 rw[if_neg h2,if_neg h2];by_cases h3:f=3
 ·rw[if_pos h3,if_pos h3]
 rw[if_neg h3,if_neg h3];by_cases h4:f=4
 ·rw[if_pos h4,if_pos h4]
  match hg:g.kd with
  | [a,b] =>
   have ha:=hk a (by rw[hg];simp) W hW;have hb:=hk b (by rw[hg];simp) W hW;simp only[ha,hb]
  | []=>rfl
  | [_]=>rfl
  | _::_::_::_=>rfl
 rw[if_neg h4,if_neg h4];by_cases h5:f=5
 ·rw[if_pos h5,if_pos h5]
  match hg:g.kd with
  | [a]=>simp only;rw[hk a (by rw[hg];simp) (W.mores [W.mean t]) hW]
  | []=>rfl
  | _::_::_=>rfl
 rw[if_neg h5,if_neg h5];by_cases h6:f=6
 ·rw[if_pos h6,if_pos h6]
  match hg:g.kd with
  | [a]=>simp only;rw[hk a (by rw[hg];simp) W hW]
  | []=>rfl
  | _::_::_=>rfl
 rw[if_neg h6,if_neg h6];by_cases h7:f=7
 ·rw[if_pos h7,if_pos h7]
  match hg:g.kd with
  | [a] =>
   simp only;have:=hk a (by rw[hg];simp) W.all hW;rw[show ({W with nm:=nm'}:DW).all={W.all with nm:=nm'} from rfl,this]
  | []=>rfl
  | _::_::_=>rfl
 rw[if_neg h7,if_neg h7];by_cases h8:f=8
 ·rw[if_pos h8,if_pos h8]
  match hg:g.kd with
  | [a] =>
   simp only;have h1:=hk a (by rw[hg];simp) (W.mores (g.bd.map fun b=>W.mean b.1)) hW;have h2:(∀b∈g.bd,b.2 {W.mores (g.bd.map fun b=>W.mean b.1) with nm:=nm'} = some (W.mean b.1))↔∀b∈g.bd,b.2 (W.mores (g.bd.map fun b=>W.mean b.1))=some (W.mean b.1):=by
    constructor
    ·intro q b hbm;have:=q b hbm
     rwa [hb b hbm (W.mores (g.bd.map fun b=>W.mean b.1)) hW] at this
    ·intro q b hbm;rw[hb b hbm (W.mores (g.bd.map fun b=>W.mean b.1)) hW];exact q b hbm
   rw[h1];by_cases q:∀b∈g.bd,b.2 (W.mores (g.bd.map fun b=>W.mean b.1))=some (W.mean b.1)
   ·rw[if_pos q,if_pos (h2.2 q)]
   ·rw[if_neg q,if_neg fun z=>q (h2.1 z)]
  | []=>rfl
  | _::_::_=>rfl
 rw[if_neg h8,if_neg h8];by_cases h9:f=9
 ·rw[if_pos h9,if_pos h9]
  match hg:g.kd with
  | [a] =>
   simp only;rw[hk a (by rw[hg];simp) W hW];cases a W with
   | none=>rfl
   | some u =>
    simp only;have h2:(∀x∈g.al,∃W',jZ {W with nm:=nm'} u x.1 x.2.1=some W'/\x.2.2 W'=some (W.mean t))↔∀x∈g.al,∃W',jZ W u x.1 x.2.1=some W'/\x.2.2 W'=some (W.mean t):=by
     constructor
     ·intro q x hx;obtain⟨W',q1,q2⟩:=q x hx;rw[zTF] at q1;obtain⟨W2,q3,q4⟩:=Option.map_eq_some_iff.1 q1;refine⟨W2,q3,?_⟩;rw[<-q4,ha x hx W2 (by rw[zMF q3];exact hW)] at q2;exact q2
     ·intro q x hx;obtain⟨W',q1,q2⟩:=q x hx;refine⟨{W' with nm:=nm'},by rw[zTF,q1];rfl,?_⟩;rw[ha x hx W' (by rw[zMF q1];exact hW)];exact q2
    by_cases q:∀x∈g.al,∃W',jZ W u x.1 x.2.1=some W'/\x.2.2 W'=some (W.mean t)
    ·rw[if_pos q,if_pos (h2.2 q)]
    ·rw[if_neg q,if_neg fun z=>q (h2.1 z)]
  | []=>rfl
  | _::_::_=>rfl
 rw[if_neg h9,if_neg h9];by_cases h10:f=10
 ·rw[if_pos h10,if_pos h10]
  match hg:g.kd with
  | [a,b] =>
   have ha:=hk a (by rw[hg];simp) W hW;have hb:=hk b (by rw[hg];simp) W hW;simp only[ha,hb]
  | []=>rfl
  | [_]=>rfl
  | _::_::_::_=>rfl
 rw[if_neg h10,if_neg h10]
theorem z95 {nm nm':ByteArray->Option Db} (D:DC):(∀s∈fvD D,nm' s=nm s)->Stb nm nm' (zDF D).nd/\(∀φ∈(zDF D).kd,Stb nm nm' φ)/\(∀b∈(zDF D).bd,Stb nm nm' b.2)/\∀a∈(zDF D).al,Stb nm nm' a.2.2:=by
 have no:∀{α:Type} {P:α->Prop},∀x∈([]:List α),P x:=fun x hx=>by cases hx
 induction D with
 | nil=>intro _;exact⟨fun W _=>rfl,no,no,no⟩
 | bv i=>intro _;exact⟨fun W _=>rfl,no,no,no⟩
 | fr s=>intro h;exact⟨fun W hW=>by show nm' s=W.nm s;rw[hW];exact h s (by simp[fvD]),no,no,no⟩
 | node f n s t g ih =>
  intro h;obtain⟨_,h1,h2,h3⟩:=ih h;exact⟨z3R h1 h2 h3,no,no,no⟩
 | kid p r ihp ihr =>
  intro h;obtain⟨p1,_⟩:=ihp fun s hs=>h s (mem_no.2 (.inl hs));obtain⟨r1,r2,r3,r4⟩:=ihr fun s hs=>h s (mem_no.2 (.inr hs));exact⟨r1,fun φ hφ=>(List.mem_cons.1 hφ).elim (fun e=>e ▸ p1) (r2 φ),r3,r4⟩
 | bind t p r ihp ihr =>
  intro h;obtain⟨p1,_⟩:=ihp fun s hs=>h s (mem_no.2 (.inl hs));obtain⟨r1,r2,r3,r4⟩:=ihr fun s hs=>h s (mem_no.2 (.inr hs));exact⟨r1,r2,fun φ hφ=>(List.mem_cons.1 hφ).elim (fun e=>e ▸ p1) (r3 φ),r4⟩
 | alt f n s k p r ihp ihr =>
  intro h;obtain⟨p1,_⟩:=ihp fun s hs=>h s (mem_no.2 (.inl hs));obtain⟨r1,r2,r3,r4⟩:=ihr fun s hs=>h s (mem_no.2 (.inr hs));exact⟨r1,r2,r3,fun φ hφ=>(List.mem_cons.1 hφ).elim (fun e=>e ▸ p1) (r4 φ)⟩
theorem zbW {c:Cr} {W:DW} {nm':ByteArray->Option Db} (h:∀s∈c.fv,nm' s=W.nm s):tyD (dbc c [] []) {W with nm:=nm'} = tyD (dbc c [] []) W :=
 (z95 (nm:=W.nm) (nm':=nm') (dbc c [] []) fun s hs=>h s (by rw[zQ7] at hs;exact (List.mem_filter.1 hs).1)).1 W rfl
theorem zWW {l:List Nm2} {x:Nm2} {s:ByteArray} (h:x.1≠s):xX (x::l) s=xX l s:=by
 unfold xX;rw[List.reverse_cons,List.find?_append];cases hf:l.reverse.find? fun p=>decide (p.1=s) with
 | some p=>rfl
 | none=>simp[h]
def zLG (L:List Nm2):DW:=⟨fields19,fun s=>(xX L s).map fun t=>db t [],[],[],0⟩
def G19:List ByteArray:=xY++(List.range 6).map jM
theorem zd2 (L:List Nm2):RelW (.of fields19 L) [] [] (zLG L) :=
 ⟨rfl,rfl,fun s hs=>(by cases hs),fun s _=>rfl,fun y=>⟨fun h=>(by cases h),fun _=>rfl⟩⟩
theorem zD9:∀f∈fields19,f.t.sz<=20/\dp f.t<=2/\∀s,s∉fv f.t:=by
 intro f hf;have key:fv f.t=[]/\f.t.sz<=20/\dp f.t<=2:=by
  simp only[fields19,List.mem_cons,List.not_mem_nil,or_false] at hf;rcases hf with rfl|rfl|rfl|rfl|rfl|rfl<;>decide
 exact⟨key.2.1,key.2.2,fun s hs=>by rw[key.1] at hs;cases hs⟩
theorem z92 {t:Tp} (h:good t) (hs:t.sz<=193):TB G19 193 (30*193) t:=by
 have h1:=jG t;have h2:=zJ9 t;exact⟨fun s hm=>List.mem_append_left _ (zC0 h s hm),by omega,by omega⟩
theorem zeT {L:List Nm2} (hL:∀x∈L,good x.2/\x.2.sz<=193):BdW G19 193 [] (.of fields19 L) :=
 ⟨by show fields19.length<=1000;decide,fun f hf=>⟨(zSS f hf).1,zD9 f hf⟩,fun x hx=>z92 (hL x hx).1 (hL x hx).2,fun p hp=>(by cases hp),by show [].length<=_;simp,fun y hy=>(by cases hy)⟩
theorem z6U {L:List Nm2} (hl:L.length<=10) (hL:∀x∈L,good x.2/\x.2.sz<=193) {c:Cr} (hn:c.isN=true) (ho:c.Ok) (hk:c.Dk 6) (htv:∀y∈c.tv,y∈xY) (hw:c.wt<=476) (hz:c.sz<=117):Hyp c (.of fields19 L) [] [] (zLG L) G19 193 6:=by
 refine⟨hn,ho,hk,zd2 L,zeT hL,fun y hy _=>List.mem_append_left _ (htv y hy),by decide,fun j hj=>?_,by show 0+6<=20;decide,by omega,by show 193+(c.wt+2*c.sz)<=1000;omega,by decide,by show L.length+c.wt<=90000;omega⟩;have hj:j<0+6:=hj;exact List.mem_append_right _ (List.mem_map.2 ⟨j,by simpa using hj,rfl⟩)
theorem zJD {L:List Nm2} (hl:L.length<=10) (hL:∀x∈L,good x.2/\x.2.sz<=193) {c:Cr} (h:Hyp c (.of fields19 L) [] [] (zLG L) G19 193 6) :
  (∃t,zF Tryz.prog 12 [.sl (zEW fields19),.sl (xW L),eC c] (.tup [eTy t,.lit (.int .i64 0)])/\tyD (dbc c [] []) (zLG L)=some (db t [])/\dp t<=1000) ∨
  (zF Tryz.prog 12 [.sl (zEW fields19),.sl (xW L),eC c] (.tup [eTy .no,.lit (.int .i64 50)])/\tyD (dbc c [] []) (zLG L)=none):=by
 rcases both_ok c.sz c (Nat.le_refl _) _ _ _ _ _ _ _ h with⟨t,h1,h2,h3⟩|⟨h1,h2⟩
 ·have hd:=h3.dp;have hc:=h.cs;refine .inl ⟨t,zJY (K:=20) h1 ⟨⟨G19,by decide,h3.nm,fun p hp=>(by cases hp)⟩,by omega,by simp;omega,fun p hp=>(by cases hp)⟩,h2,by omega⟩
 ·exact .inr ⟨zOH h1,h2⟩
abbrev zJ2:ByteArray:=⟨#[110,111,110,101]⟩
abbrev sQ:ByteArray:=⟨#[113,39]⟩
theorem zZS:∀f∈fields19,GdD 20 (db f.t [])/\f.t.sz<=20:=by
 intro f hf;refine⟨?_,(zD9 f hf).1⟩;simp only[fields19,List.mem_cons,List.not_mem_nil,or_false] at hf;rcases hf with rfl|rfl|rfl|rfl|rfl|rfl<;>simp[GdD,db,memb,ixN]<;>decide
theorem zeY {L:List Nm2} (hL:∀x∈L,good x.2/\x.2.sz<=193):WB 256 (zLG L):=by
 refine⟨fun x hx=>(by cases hx),fun s x hx=>?_,zZS,fun o ho=>(by cases ho)⟩;obtain⟨t,h1,h2⟩:=Option.map_eq_some_iff.1 hx;obtain⟨p,hp,rfl⟩:=zOK h1;rw[<-h2];exact⟨zX3 _ _ (hL p hp).1,by rw[zG3];have:=(hL p hp).2;omega⟩
theorem zW4 (L:List Nm2) (t u:Tp):∀s∈W18,xX ((zJ2,t)::(L++[(sQ,u)])) s=xX L s:=fun s hs=>by
 have h1:∀s∈W18,zJ2≠s/\sQ≠s:=by decide
 rw[zWW (h1 s hs).1,zJ8,if_neg (h1 s hs).2]
theorem zNX {l:List Int} {env:List (List Int)} {n:Int} (hl:l.length<9223372036854775808) (hr:∀x∈l,InR x) (hel:env.length<9223372036854775808) (her:∀r∈env,(∀x∈r,InR x)/\r.length<9223372036854775808) (hn:InR n):zF Tryz.prog 3 [.sl (eIs l),.sl (zEB env),.lit (.int .i64 n)] (.sb true):=by
 obtain⟨L,hnames,hL4,hL⟩:=z6J hel her;obtain⟨c,hsm,hpk,hdk,⟨hwt0,hsz,_⟩,hmade⟩:=zWC hl hr;obtain⟨r,hr3,har⟩:=jS (n:=n) (m:=3) hn (by decide) (by decide);have hwt:c.wt<=476:=by have:(l.take 60).length<=60:=by {simp;omega};omega
 have hLg:∀x∈L,good x.2/\x.2.sz<=193:=fun x hx=>⟨(hL x hx).1,(hL x hx).2.1⟩
 have hsx:Sx c:=⟨hsm.n,hsm.ok,hsm.wt⟩
 obtain⟨c',hc'⟩:∃c',c'=renG r c:=⟨_,rfl⟩
 have hren:=zVS r (by omega) c.sz c (Nat.le_refl _) hsx hpk;obtain⟨w1,w2,w3⟩:=zXG r c hsm.ok hpk hsm.wt;rw[<-hc'] at hren w1 w2 w3;have h0:=z6U (L:=L) (by omega) hLg hsm.n hsm.ok hdk (zRP c hpk) hwt hsz;obtain⟨L1,hL1⟩:∃L1,L1=(zJ2,Tp.con xU)::(L++[(sQ,Tp.var ⟨#[97]⟩)]):=⟨_,rfl⟩
 have hL1g:∀x∈L1,good x.2/\x.2.sz<=193:=fun x hx=>by
  rw[hL1] at hx;rcases List.mem_cons.1 hx with rfl|hx
  ·exact⟨by show xU∈jD;decide,by decide⟩
  ·rcases List.mem_append.1 hx with hx|hx
   ·exact hLg x hx
   ·rw[List.mem_singleton.1 hx];exact⟨by show (⟨#[97]⟩:ByteArray)∈xY;decide,by decide⟩
 have h1:=z6U (L:=L1) (by rw[hL1];simp;omega) hL1g hsm.n hsm.ok hdk (zRP c hpk) hwt hsz;have h2:=z6U (L:=L) (by omega) hLg (c:=c') (by rw[w1];exact hsm.n) w2 (by rw[<-zYD c' [] [] 6 w2,w3,zYD c [] [] 6 hsm.ok];exact hdk) (fun y hy=>zRP c hpk y ((zYR w2 hsm.ok (w3 [] []) y).1 hy)) (by rw[<-jH c' [] [] w2,w3,jH c [] [] hsm.ok];exact hwt) (by rw[<-zYC c' [] [] w2,w3,zYC c [] [] hsm.ok];exact hsz);have b0:=zJD (by omega) hLg h0;have b1:=zJD (by rw[hL1];simp;omega) hL1g h1;have b2:=zJD (by omega) hLg h2;have e1:tyD (dbc c [] []) (zLG L1)=tyD (dbc c [] []) (zLG L):=by
  refine zbW (c:=c) (W:=zLG L) (nm':=fun s=>(xX L1 s).map fun t=>db t []) fun s hs=>?_;show (xX L1 s).map _=(xX L s).map _;rw[hL1,zW4 L _ _ s (zbM c hpk s hs)]
 rw[e1] at b1;rw[w3] at b2;obtain⟨o,ho⟩:∃o,o=tyD (dbc c [] []) (zLG L):=⟨_,rfl⟩
 rw[<-ho] at b0 b1 b2;have eL1:xW L1=xW [(zJ2,Tp.con xU)]++xW L++xW [(sQ,Tp.var ⟨#[97]⟩)]:=by rw[hL1];simp[xW]
 rw[eL1] at b1;have hlN:(xW L).length=L.length:=by simp[xW]
 refine yX ttok mixed Tryz.func3 rfl (by rfl) (Nat.le_of_ble_eq_true rfl) (by kernel_rfl) ?_;refine Wsem.seq ttok mixed ?_;refine Wsem.seq ttok mixed ?_;refine .inl ⟨_,hnames,?_⟩;refine Wsem.seq ttok mixed ?_;refine .inl ⟨_,hmade,?_⟩;refine Wsem.seq ttok mixed ?_;refine .inl ⟨_,zOD,?_⟩;refine Wsem.cut {vs:=[(2,sv n),(7,.v (.sl (xW L))),(9,.box 0 (eC c)),(10,.v (.sl (zEW fields19)))]} ⟨⟨rfl,rfl,rfl,rfl,trivial⟩,trivial,rfl⟩ ?_;refine Wsem.seq ttok mixed ?_;rcases b0 with⟨t,a1,a2,a3⟩|⟨a1,a2⟩
 ·rcases b1 with⟨u,b1,b2',b3⟩|⟨_,b2'⟩
  ·rcases b2 with⟨v,c1,c2,c3⟩|⟨_,c2⟩
   ·have d1:db t []=db u []:=by rw[a2] at b2';exact Option.some.inj b2'
    have d2:db u []=db v []:=by rw[b2'] at c2;exact Option.some.inj c2
    obtain⟨g1,g2⟩:=z5B c.sz c (Nat.le_refl _) hsm.n hsm.ok hpk 6 hdk [] [] (zLG L) 256 (by decide) (by show 0+6<=90;decide) (zeY hLg) (db t []) (by rw[<-ho];exact a2);have g3:zb (db t [])<=2 ^ 52:=by
     refine Nat.le_trans g2 ?_;have:2 ^ (c.wt / 32+5*6)<=2 ^ 44:=Nat.pow_le_pow_right (by decide) (by omega);exact Nat.mul_le_mul_left 256 this
    have s1:=zXD d1 g1 g3 (by omega) (by omega);have s2:=zXD d2 (d1 ▸ g1) (d1 ▸ g3) (by omega) (by omega);refine .inl ⟨_,a1,?_⟩;refine Wsem.seq ttok mixed ?_;refine .inl ⟨_,zAT _,?_⟩;refine⟨by simp[xW];omega,zBG [(zJ2,Tp.con xU)],zBG L,?_⟩;refine Wsem.seq ttok mixed ?_;refine .inl ⟨_,zGA _,?_⟩;refine⟨by simp[xW];omega,?_,zBG [(sQ,Tp.var ⟨#[97]⟩)],?_⟩
    ·exact fun x hx=>by rcases List.mem_append.1 hx with hx|hx;exact zBG [(zJ2,Tp.con xU)] x hx;exact zBG L x hx
    refine .inl ⟨_,b1,?_⟩;refine⟨by kernel_rfl,?_⟩;refine Wsem.seq ttok mixed ?_;refine .inl ⟨_,har,?_⟩;refine .inl ⟨_,hren,?_⟩;refine .inl ⟨_,c1,?_⟩;refine⟨by kernel_rfl,?_⟩;refine Wsem.of ttok mixed ?_;refine⟨fun _=>?_,fun h=>absurd h (by simp)⟩;refine⟨fun _=>?_,fun h=>absurd h (by simp)⟩;refine⟨fun _=>?_,fun h=>absurd h (by simp)⟩;refine .inl ⟨_,s1,?_⟩;refine⟨fun _=>?_,fun h=>absurd h (by simp)⟩;refine .inl ⟨_,s2,?_⟩;refine⟨fun _=>?_,fun h=>absurd h (by simp)⟩;refine .inl ⟨_,zL5,?_⟩;exact rfl
   ·rw[a2] at c2;cases c2
  ·rw[a2] at b2';cases b2'
 ·rcases b1 with⟨u,b1,b2',b3⟩|⟨b1,b2'⟩
  ·rw[a2] at b2';cases b2'
  ·rcases b2 with⟨v,c1,c2,c3⟩|⟨c1,c2⟩
   ·rw[a2] at c2;cases c2
   ·refine .inl ⟨_,a1,?_⟩;refine Wsem.seq ttok mixed ?_;refine .inl ⟨_,zAT _,?_⟩;refine⟨by simp[xW];omega,zBG [(zJ2,Tp.con xU)],zBG L,?_⟩;refine Wsem.seq ttok mixed ?_;refine .inl ⟨_,zGA _,?_⟩;refine⟨by simp[xW];omega,?_,zBG [(sQ,Tp.var ⟨#[97]⟩)],?_⟩
    ·exact fun x hx=>by rcases List.mem_append.1 hx with hx|hx;exact zBG [(zJ2,Tp.con xU)] x hx;exact zBG L x hx
    refine .inl ⟨_,b1,?_⟩;refine⟨by kernel_rfl,?_⟩;refine Wsem.seq ttok mixed ?_;refine .inl ⟨_,har,?_⟩;refine .inl ⟨_,hren,?_⟩;refine .inl ⟨_,c1,?_⟩;refine⟨by kernel_rfl,?_⟩;refine Wsem.of ttok mixed ?_;refine⟨fun _=>?_,fun h=>absurd h (by simp)⟩;refine⟨fun _=>?_,fun h=>absurd h (by simp)⟩;refine⟨fun h=>absurd h (by simp),fun _=>?_⟩;refine .inl ⟨_,zL5,?_⟩;exact rfl
end Go.Proofs.YtdmbahepaglcbaaGreatDoor
