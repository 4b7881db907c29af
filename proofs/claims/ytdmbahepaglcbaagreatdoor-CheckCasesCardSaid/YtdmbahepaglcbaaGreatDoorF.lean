/- A part of the proof of a given statement: contracts of functions of the program, under no condition but those that each states. -/
import Derived.Test.YtdmbahepaglcbaaGreatDoorE
import Derived.Test.YtdmbahepaglcbaaGreatDoorFpE
set_option linter.unusedSimpArgs false
set_option linter.unusedVariables false
namespace Go.Proofs.YtdmbahepaglcbaaGreatDoor
open Go Fp
set_option maxRecDepth 100000
set_option maxHeartbeats 4000000
def frs (l:List Tp) (g out:List ByteArray):List ByteArray:=l.foldl (fun out a=>fr a g out) out
theorem zNE {l:List Tp} {g out:List ByteArray} {k:Nat} (h:k<l.length):frs (l.take (k+1)) g out=fr l[k] g (frs (l.take k) g out):=by
 simp only[frs,List.take_succ_eq_append_getElem h,List.foldl_append,List.foldl_cons,List.foldl_nil]
abbrev zJE (t:Tp) (g out:List ByteArray):Prop :=
 CallsG Tryz.prog (fnv zE4) [] [eTy t,.sl (eSs g),.sl (eSs out)] [0,0,2] fun r o h=>r = .sl (eSs (fr t g out))/\o=2/\h=[]
def size:Tp->Nat
 | .app a b=>size a+size b
 | .all _ a=>1+size a
 | _=>1
def digs (l:List UInt8):Nat:=l.foldl (fun v c=>10*v+(c.toNat-48)) 0
theorem zUE (l:List UInt8) (c:UInt8):digs (l++[c])=10*digs l+(c.toNat-48):=by simp[digs]
theorem zHO (x:UInt8):(ByteArray.mk #[x]).data.toList=[x]:=rfl
theorem zL0 (a b:ByteArray):(a++b).data.toList=a.data.toList++b.data.toList:=by
 rw[show (a++b).data=a.data++b.data from ByteArray.data_append ..];simp
theorem zIJ (n:Nat):digs (dcm n).data.toList=n:=by
 induction n using Nat.strongRecOn with
 | _ n ih =>
  by_cases h:n<10
  ·rw[jB h,zHO];simp[digs];omega
  ·rw[zC7 h,zL0,zHO,zUE,ih (n / 10) (by omega)];simp;omega
theorem z0T (n:Nat):0<(dcm n).data.toList.length:=by
 by_cases h:n<10
 ·rw[jB h];simp
 ·rw[zC7 h,zL0];simp
def deco (s:ByteArray):Nat:=match s.data.toList with
 | []=>0
 | [c]=>c.toNat-97
 | c::r=>26*digs r+(c.toNat-97)
theorem zF6 (n:Nat):deco (lett n)=n:=by
 unfold lett;split
 ·rename_i h;unfold deco;rw[zHO];simp;omega
 ·rename_i h;have hd:=zIJ (n / 26);have hn:=z0T (n / 26);unfold deco;rw[zL0,zHO];cases hr:(dcm (n / 26)).data.toList with
  | nil=>rw[hr] at hn;simp at hn
  | cons x r =>
   rw[hr] at hd;show 26*digs (x::r)+_=_;rw[hd];simp;omega
theorem zM4 {a b:Nat} (h:lett a=lett b):a=b:=by rw[<-zF6 a,h,zF6]
theorem wP {α:Type} [DecidableEq α]:∀(l m:List α),l.Nodup->(∀x∈l,x∈m)->l.length<=m.length
 | [],_,_,_=>by simp
 | x::l,m,hn,hs=>by
  have hx:=hs x (by simp);have:=wP l (m.erase x) (List.nodup_cons.1 hn).2 (fun y hy=>(List.mem_erase_of_ne (fun e:y=x=>(List.nodup_cons.1 hn).1 (e ▸ hy))).2 (hs y (by simp[hy])));have:=List.length_erase_of_mem hx;have:0<m.length:=List.length_pos_of_mem hx;simp only[List.length_cons];omega
theorem least (p:Nat->Prop) (n:Nat) (h:p n):∃k,p k/\(∀j,j<k->¬p j)/\k<=n:=by
 induction n using Nat.strongRecOn with
 | _ n ih =>
  by_cases hx:∃j,j<n/\p j
  ·obtain⟨j,hj,hp⟩:=hx;obtain⟨k,h1,h2,h3⟩:=ih j hj hp;exact⟨k,h1,h2,by omega⟩
  ·exact⟨n,h,fun j hj hp=>hx ⟨j,hj,hp⟩,Nat.le_refl _⟩
theorem zY3 (l:List ByteArray):∀s∈l,deco s<=(l.map deco).sum:=by
 induction l with
 | nil=>simp
 | cons x l ih =>
  intro s hs;simp only[List.map_cons,List.sum_cons];rcases List.mem_cons.1 hs with rfl|h
  ·omega
  ·have:=ih s h;omega
theorem zV8 (l:List ByteArray):∃n,lett n∉l/\(∀j,j<n->lett j∈l):=by
 obtain⟨k,h1,h2,_⟩:=least (fun n=>lett n∉l) ((l.map deco).sum+1) (fun hm=>by have:=zY3 l _ hm;rw[zF6] at this;omega);exact⟨k,h1,fun j hj=>Classical.not_not.1 (h2 j hj)⟩
noncomputable def ff (l:List ByteArray):Nat:=(zV8 l).choose
theorem zV6 (l:List ByteArray):lett (ff l)∉l:=(zV8 l).choose_spec.1
theorem zLL (l:List ByteArray):∀j,j<ff l->lett j∈l:=(zV8 l).choose_spec.2
theorem zUZ (l:List ByteArray):ff l<=l.length:=by
 have:=wP ((List.range (ff l)).map lett) l (by
  rw[List.nodup_iff_pairwise_ne] at *;refine List.pairwise_map.2 (List.Pairwise.imp (fun h e=>h (zM4 e)) (List.nodup_range)))
  (fun x hx=>by obtain⟨j,hj,rfl⟩:=List.mem_map.1 hx;exact zLL l j (by simpa using hj))
 simpa using this
theorem zQA {l:List ByteArray} (hf:ff l<2600) (hl:l.length<1000000000000000000):zC Tryz.prog zIA [.sl (eSs l)] (.lit (.string (lett (ff l)))):=by
 have hfl:=zUZ l;refine zA ttok mixed Tryz.func129 rfl (by rfl) (Nat.le_of_ble_eq_true rfl) (by kernel_rfl) ?_;have e1:IntKind.i64.wrap (((eSs l).length:Nat)+1)=((l.length+1:Nat):Int):=by rw[show (eSs l).length=l.length by simp[eSs]];exact wrap_succ (by omega)
 refine⟨{k:Nat // k<=ff l},fun k=>{vs:=[(0,.v (.sl (eSs l))),(7,.v (.lit (.int .i64 ((l.length+1:Nat):Int)))),(8,.v (.lit (.int .i64 (k.1:Nat))))],ow:=[]},
  fun k=>ff l-k.1,⟨0,Nat.zero_le _⟩,⟨⟨rfl,congrArg (fun n=>SV.v (AV.lit (Value.int .i64 n))) e1,rfl,trivial⟩,trivial,rfl⟩,?_⟩
 rintro⟨k,hk⟩;refine⟨fun h3=>?_,fun h3=>by simp at h3;omega⟩;refine .inl ⟨_,zPY (n:=k) (by omega),?_⟩;refine .inl ⟨_,yP (l:=l) (s:=lett k) (by omega),?_⟩;refine⟨fun h4=>?_,fun h4=>?_⟩
 ·have h4:lett k∉l:=fun hm=>by rw[yO hm] at h4;cases h4
  have:k=ff l:=by
   rcases Nat.lt_or_ge k (ff l) with q|q
   ·exact absurd (zLL l k q) h4
   ·omega
  subst this;exact rfl
 ·have h4:lett k∈l:=memb_iff.1 (by simpa using h4);have:k≠ff l:=fun e=>zV6 l (e ▸ h4);refine⟨⟨k+1,by omega⟩,(show ff l-(k+1)<ff l-k by omega),⟨rfl,rfl,?_,trivial⟩,trivial,rfl⟩;exact congrArg (fun n=>SV.v (AV.lit (Value.int .i64 n))) (wrap_succ (k:=k) (by omega))
abbrev Env':=List (ByteArray×Tp)
def look (x:ByteArray):Env'->Option Tp
 | []=>none
 | (s,t)::r=>if s=x then some t else look x r
def kept (s:ByteArray) (own:List ByteArray) (ps:Env'):Env':=ps.filter fun p=>decide (p.1≠s) && memb p.1 own
def caught (ps:Env'):List ByteArray:=ps.flatMap fun p=>fv p.2
noncomputable def sub:Tp->Env'->Tp
 | .var x,ps=>(look x ps).getD (.var x)
 | .app a b,ps => .app (sub a ps) (sub b ps)
 | .all s a,ps=>if memb s (caught (kept s (fv a) ps)) then .all (lett (ff (caught (kept s (fv a) ps)++fv a))) (sub a (kept s (fv a) ps++[(s,.var (lett (ff (caught (kept s (fv a) ps)++fv a))))]))
   else .all s (sub a (kept s (fv a) ps))
 | t,_=>t
def dp:Tp->Nat
 | .app a b=>max (dp a) (dp b)
 | .all _ a=>dp a+1
 | _=>0
theorem jJ (t:Tp):dp t<=t.sz:=by
 induction t with
 | app a b iha ihb=>simp only[dp,Tp.sz];omega
 | all s a ih=>simp only[dp,Tp.sz];omega
 | _=>simp[dp]
theorem zHW {x:ByteArray} {ps:Env'} {t:Tp} (h:look x ps=some t):(x,t)∈ps:=by
 induction ps with
 | nil=>cases h
 | cons p r ih =>
  obtain⟨s,u⟩:=p;simp only[look] at h;split at h
  ·rename_i e;subst e;injection h with h;subst h;simp
  ·exact List.mem_cons_of_mem _ (ih h)
theorem zHX {α:Type} [DecidableEq α] {s x:α} {l:List α} (h:s≠x) (hm:x∈l):ixI (s::l) x=ixI l x+1:=by
 rw[ixI,ixI,if_pos hm,if_pos (List.mem_cons_of_mem _ hm),List.idxOf_cons,show (s == x)=false from beq_eq_false_iff_ne.2 h]
 rfl
theorem zMA {x:ByteArray}:∀{ps:Env'},(look x ps=none/\x∉ps.map (·.1))∨(∃k:Nat,∃h:k<ps.length,ixI (ps.map (·.1)) x=(k:Nat)/\look x ps=some ps[k].2)
 | [] => .inl ⟨rfl,by simp⟩
 | (s,t)::r=>by
  by_cases hs:s=x
  ·subst hs;exact .inr ⟨0,by simp,by simp[ixI],by simp[look]⟩
  ·rcases zMA (x:=x) (ps:=r) with⟨h1,h2⟩|⟨k,hk,h1,h2⟩
   ·exact .inl ⟨by simp[look,hs,h1],fun hm=>by rcases List.mem_cons.1 hm with e|e;exact hs e.symm;exact h2 e⟩
   ·refine .inr ⟨k+1,by simpa using hk,?_,by simp[look,hs,h2]⟩;have hm:x∈r.map (·.1):=by
     by_cases hm:x∈r.map (·.1)
     ·exact hm
     ·rw[zFV hm] at h1;omega
    show ixI (s::r.map (·.1)) x=_;rw[zHX hs hm,h1];rfl
theorem zBA {s:ByteArray} {own:List ByteArray} {ps:Env'} {p:ByteArray×Tp} (h:p∈kept s own ps):p∈ps:=(List.mem_filter.1 h).1
theorem zAS (s:ByteArray) (own:List ByteArray) (ps:Env'):(kept s own ps).length<=ps.length:=List.length_filter_le _ _
set_option maxHeartbeats 8000000
def eN (ps:Env'):List AV:=eSs (ps.map (·.1))
def eB (ps:Env'):List AV:=zJ (ps.map (·.2))
theorem qB (ps:Env'):(eN ps).length=ps.length:=by simp[eN,eSs]
theorem zDD (ps:Env'):(eB ps).length=ps.length:=by simp[eB,zJ]
theorem zHM (ps:Env') (s:ByteArray) (t:Tp):eN ps++[.lit (.string s)]=eN (ps++[(s,t)]):=by simp[eN,eSs]
theorem zHE (ps:Env') (s:ByteArray) (t:Tp):eB ps++[eTy t]=eB (ps++[(s,t)]):=by simp[eB,zJ]
theorem zMB {ps:Env'} {k:Nat} (h:k<ps.length):(eN ps)[k]? = some (.lit (.string ps[k].1)):=by simp[eN,eSs,h]
theorem zGB {ps:Env'} {k:Nat} (h:k<ps.length):(eB ps)[k]? = some (eTy ps[k].2):=by simp[eB,zJ,h]
theorem zT1 (ps:Env'):Uni 1 (eN ps):=xH _
theorem zUG (ps:Env'):Uni 4 (eB ps):=zGC _
theorem zK3 {s:ByteArray} {own:List ByteArray} {ps:Env'} {k:Nat} (h:k<ps.length):kept s own (ps.take (k+1))=kept s own (ps.take k)++(if decide (ps[k].1≠s) && memb ps[k].1 own then [ps[k]] else []):=by
 rw[List.take_succ_eq_append_getElem h];unfold kept;rw[List.filter_append];simp[List.filter_cons]
theorem zG3 (ps:Env') (p:ByteArray×Tp):caught (ps++[p])=caught ps++fv p.2:=by simp[caught]
theorem zMQ (l m:List ByteArray):eSs l++eSs m=eSs (l++m):=by simp[eSs]
abbrev xM (t:Tp) (ps:Env'):Prop:=zC Tryz.prog zJQ [eTy t,.sl (eN ps),.sl (eB ps)] (eTy (sub t ps))
abbrev qA (t:Tp) (ps:Env'):Prop:=zC Tryz.prog zD8 [eTy t,.sl (eN ps),.sl (eB ps)] (eTy (sub t ps))
theorem mem_fv_app {a b:Tp} {x:ByteArray}:x∈fv (.app a b)↔x∈fv a∨x∈fv b:=by
 simp only[fv,mem_insAll,no];simp
theorem mem_fv_all {s:ByteArray} {a:Tp} {x:ByteArray}:x∈fv (.all s a)↔x∈fv a/\x≠s:=by
 simp only[fv,mem_insAll];simp
theorem z0L {M:Nat} (hM:1<=M) (t:Tp):∀ps:Env',(∀p∈ps,p.2.sz<=M)->(sub t ps).sz<=t.sz*M:=by
 induction t with
 | var v =>
  intro ps hp;simp only[sub,Tp.sz,Nat.one_mul];cases hl:look v ps with
  | none=>exact hM
  | some u=>exact hp _ (zHW hl)
 | app a b iha ihb =>
  intro ps hp;have h1:=iha ps hp;have h2:=ihb ps hp;simp only[sub,Tp.sz,Nat.add_mul,Nat.one_mul];omega
 | all s a ih =>
  intro ps hp;simp only[sub];split
  ·have h1:=ih (kept s (fv a) ps++[(s,.var (lett (ff (caught (kept s (fv a) ps)++fv a))))]) (fun p h=>by
    rcases List.mem_append.1 h with h|h
    ·exact hp p (zBA h)
    ·simp at h;subst h;exact hM)
   simp only[Tp.sz,Nat.add_mul,Nat.one_mul];omega
  ·have h1:=ih (kept s (fv a) ps) (fun p h=>hp p (zBA h));simp only[Tp.sz,Nat.add_mul,Nat.one_mul];omega
 | _=>intro ps hp;simp only[sub,Tp.sz,Nat.one_mul];exact hM
def rest (own:List ByteArray) (ps:Env'):List ByteArray:=own.filter fun x => !memb x (ps.map (·.1))
def pl (l:List ByteArray) (s:ByteArray):Int:=if memb s l then (l.length:Int)-1-ixI l.reverse s else -1
theorem zSY {n k:Nat} (h:k<n) (hn:n<9223372036854775808):IntKind.i64.wrap (IntKind.i64.wrap ((n:Int)-1)-(k:Int))=((n-1-k:Nat):Int):=by
 have e1:(n:Int)-1=((n-1:Nat):Int):=by omega
 rw[e1,yN (by omega),show ((n-1:Nat):Int)-(k:Int)=((n-1-k:Nat):Int) by omega,yN (by omega)]
theorem zMY {l:List ByteArray} {s:ByteArray} (hl:l.length<9223372036854775807):zC Tryz.prog zJX [.sl (eSs l),.lit (.string s)] (.lit (.int .i64 (pl l s))):=by
 refine zA ttok mixed Tryz.func149 rfl (by rfl) (Nat.le_of_ble_eq_true rfl) (by kernel_rfl) ?_;have hlen:(eSs l).length=l.length:=by simp[eSs]
 have hrl:l.reverse.length=l.length:=by simp
 refine⟨{k:Nat // k<=l.length/\∀j,j<k->l.reverse[j]?≠some s},fun k=>{vs:=[(0,.v (.sl (eSs l))),(1,.v (.lit (.string s))),(8,.v (.lit (.int .i64 ((eSs l).length:Nat)))),(9,.v (.lit (.int .i64 (k.1:Nat))))],ow:=[]},
  fun k=>l.length-k.1,⟨0,Nat.zero_le _,fun j hj=>absurd hj (by omega)⟩,⟨⟨rfl,rfl,rfl,rfl,trivial⟩,trivial,rfl⟩,?_⟩
 rintro⟨k,hk,hn⟩;refine⟨fun h=>?_,fun h=>?_⟩
 ·have h:k<l.length:=by simp[hlen] at h;omega
  have ew:IntKind.i64.wrap (IntKind.i64.wrap (((eSs l).length:Nat)-1)-(k:Int))=((l.length-1-k:Nat):Int):=by rw[hlen];exact zSY h (by omega)
  have hi:l.length-1-k<l.length:=by omega
  have hrev:l.reverse[k]'(by omega)=l[l.length-1-k]:=by simp[List.getElem_reverse]
  refine⟨.lit (.string l[l.length-1-k]),by rw[ew];omega,by rw[ew];exact zBI hi,rfl,?_⟩;refine⟨fun h2=>?_,fun h2=>?_⟩
  ·have h2:l[l.length-1-k]=s:=of_decide_eq_true h2;have hp:pl l s=((l.length-1-k:Nat):Int):=by
    rw[pl,yO (h2 ▸ List.getElem_mem hi),if_pos rfl,zIL (l:=l.reverse) (k:=k) (by omega) (by rw[hrev,h2]) hn];omega
   rw[hp,<-ew];exact rfl
  ·have h2:l[l.length-1-k]≠s:=of_decide_eq_false h2;refine⟨⟨k+1,h,zFB (l:=l.reverse) (by omega) (by rw[hrev];exact h2) hn⟩,(show l.length-(k+1)<l.length-k by omega),⟨rfl,rfl,rfl,?_,trivial⟩,trivial,rfl⟩;exact congrArg (fun n=>SV.v (AV.lit (Value.int .i64 n))) (wrap_succ (k:=k) (by omega))
 ·have h:k=l.length:=by simp[hlen] at h;omega
  subst h;have hp:pl l s = -1:=by
   rw[pl,xQ (fun hm=>jD (l:=l.reverse) (by rw[hrl];exact hn) (List.mem_reverse.2 hm))];rfl
  rw[hp];exact rfl
def smb:Tp->Tp->List ByteArray->List ByteArray->Bool
 | .all s a,.all r b,x,y=>smb a b (x++[s]) (y++[r])
 | .var s,.var r,x,y=>decide (pl x s=pl y r) && (decide (0<=pl x s) || decide (s=r))
 | .app a b,.app c d,x,y=>smb a c x y && smb b d x y
 | .con s,.con r,_,_=>decide (s=r)
 | .mt n,.mt m,_,_=>decide (n=m)
 | .no,.no,_,_=>true
 | _,_,_,_=>false
theorem zLC (l:List AV):List.drop (Int.toNat 0) (List.take (Int.toNat ((l.length:Nat):Int)) l)=l:=by simp
inductive Db where
 | no
 | mt (n:Int)
 | bv (i:Nat)
 | fr (s:ByteArray)
 | con (s:ByteArray)
 | app (a b:Db)
 | all (a:Db)
def ixN {α:Type} [DecidableEq α]:List α->α->Nat
 | [],_=>0
 | x::l,s=>if x=s then 0 else ixN l s+1
def db:Tp->List ByteArray->Db
 | .no,_ => .no
 | .mt n,_ => .mt n
 | .con s,_ => .con s
 | .var s,e=>if memb s e then .bv (ixN e s) else .fr s
 | .app a b,e => .app (db a e) (db b e)
 | .all s a,e => .all (db a (s::e))
def sb (σ:ByteArray->Db):Db->Db
 | .fr s=>σ s
 | .app a b => .app (sb σ a) (sb σ b)
 | .all a => .all (sb σ a)
 | d=>d
theorem zQO {α:Type} [DecidableEq α] {l:List α} {s:α} (h:s∈l):ixN l s<l.length:=by
 induction l with
 | nil=>cases h
 | cons x l ih =>
  simp only[ixN,List.length_cons];split
  ·omega
  ·rename_i hx;rcases List.mem_cons.1 h with e|e
   ·exact absurd e.symm hx
   ·have:=ih e;omega
theorem zWQ {α:Type} [DecidableEq α] {l:List α} {s:α} (h:s∈l):ixI l s=(ixN l s:Nat):=by
 induction l with
 | nil=>cases h
 | cons x l ih =>
  simp only[ixN];split
  ·rename_i hx;subst hx;simp[ixI]
  ·rename_i hx;rcases List.mem_cons.1 h with e|e
   ·exact absurd e.symm hx
   ·rw[zHX hx e,ih e];rfl
theorem zZ9 {x:List ByteArray} {s:ByteArray}:(s∈x->pl x s=(x.length:Int)-1-(ixN x.reverse s:Nat))/\(s∉x->pl x s = -1):=by
 constructor
 ·intro h;rw[pl,yO h,if_pos rfl,zWQ (List.mem_reverse.2 h)]
 ·intro h;rw[pl,xQ h];rfl
theorem zNY {x:List ByteArray} {s:ByteArray}:memb s x.reverse=memb s x:=by
 by_cases h:s∈x
 ·rw[yO h,yO (List.mem_reverse.2 h)]
 ·rw[xQ h,xQ (fun e=>h (List.mem_reverse.1 e))]
theorem zVN:∀(a b:Tp) (x y:List ByteArray),x.length=y.length->(smb a b x y=true↔db a x.reverse=db b y.reverse):=by
 intro a;induction a with
 | no=>intro b x y h;cases b<;>simp[smb,db];split<;>simp
 | mt n=>intro b x y h;cases b<;>simp[smb,db];split<;>simp
 | con s=>intro b x y h;cases b<;>simp[smb,db];split<;>simp
 | var s =>
  intro b x y h;cases b with
  | var r =>
   obtain⟨p1,p2⟩:=zZ9 (x:=x) (s:=s);obtain⟨q1,q2⟩:=zZ9 (x:=y) (s:=r);simp only[smb,db,zNY];by_cases hs:s∈x
   ·have p1:=p1 hs;have l1:=zQO (List.mem_reverse.2 hs);rw[List.length_reverse] at l1;rw[yO hs,if_pos rfl];by_cases hr:r∈y
    ·have q1:=q1 hr;rw[yO hr,if_pos rfl];simp only[Bool.and_eq_true,Bool.or_eq_true,decide_eq_true_eq,Db.bv.injEq];omega
    ·have q2:=q2 hr;rw[xQ hr];simp only[Bool.and_eq_true,Bool.or_eq_true,decide_eq_true_eq,Bool.false_eq_true,if_false];constructor
     ·rintro⟨e,_⟩;omega
     ·intro e;cases e
   ·have p2:=p2 hs;rw[xQ hs];by_cases hr:r∈y
    ·have q1:=q1 hr;have l1:=zQO (List.mem_reverse.2 hr);rw[List.length_reverse] at l1;rw[yO hr];simp only[Bool.and_eq_true,Bool.or_eq_true,decide_eq_true_eq,Bool.false_eq_true,if_false,if_true];constructor
     ·rintro⟨e,_⟩;omega
     ·intro e;cases e
    ·have q2:=q2 hr;rw[xQ hr];simp only[Bool.and_eq_true,Bool.or_eq_true,decide_eq_true_eq,Bool.false_eq_true,if_false,Db.fr.injEq];constructor
     ·rintro⟨e,h1|h1⟩
      ·omega
      ·exact h1
     ·intro e;exact⟨by omega,.inr e⟩
  | _=>simp only[smb,db];split<;>simp
 | app a1 a2 ih1 ih2 =>
  intro b x y h;cases b with
  | app b1 b2=>simp only[smb,db,Bool.and_eq_true,ih1 b1 x y h,ih2 b2 x y h,Db.app.injEq]
  | var s=>simp only[smb,db];split<;>simp
  | _=>simp[smb,db]
 | all s a ih =>
  intro b x y h;cases b with
  | all r b =>
   have:=ih b (x++[s]) (y++[r]) (by simp[h]);simp only[List.reverse_append,List.reverse_cons,List.reverse_nil,List.nil_append,List.singleton_append] at this;simp only[smb,db,this,Db.all.injEq]
  | var s=>simp only[smb,db];split<;>simp
  | _=>simp[smb,db]
theorem zOA {a b:Tp} (h:db a []=db b []):smb a b [] []=true:=(zVN a b [] [] rfl).2 h
end Go.Proofs.YtdmbahepaglcbaaGreatDoor
