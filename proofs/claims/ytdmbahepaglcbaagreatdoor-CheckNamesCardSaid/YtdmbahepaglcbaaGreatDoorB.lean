/- A part of the proof of a given statement: contracts of functions of the program, under no condition but those that each states. -/
import Derived.Test.YtdmbahepaglcbaaGreatDoorA
import Derived.Test.YtdmbahepaglcbaaGreatDoorFpE
set_option linter.unusedSimpArgs false
set_option linter.unusedVariables false
namespace Go.Proofs.YtdmbahepaglcbaaGreatDoor
open Go Fp
set_option maxRecDepth 100000
set_option maxHeartbeats 4000000
theorem z0F (t:Tp):∀g out,(fr t g out).length<=out.length+t.sz:=by
 intro g out;rw[z3D];have:=zM (fun s=>memb s g) (fv t) out;have:=qU t;omega
def frs (l:List Tp) (g out:List ByteArray):List ByteArray:=l.foldl (fun out a=>fr a g out) out
theorem zH0 {l:List Tp} {g out:List ByteArray} {k:Nat} (h:k<l.length):frs (l.take (k+1)) g out=fr l[k] g (frs (l.take k) g out):=by
 simp only[frs,List.take_succ_eq_append_getElem h,List.foldl_append,List.foldl_cons,List.foldl_nil]
theorem zR2 (t:Tp) (g out:List ByteArray) {k:Nat} (h:k<t.args.length):(frs (t.args.take k) g out).length+t.args[k].sz<=out.length+t.sz/\1+t.args[k].sz<=t.sz:=by
 cases t with
 | app a b =>
  match k,h with
  | 0,_=>simp[frs,Tp.args,Tp.sz];omega
  | 1,_=>have:=z0F a g out;simp[frs,Tp.args,Tp.sz];omega
  | k+2,h=>simp[Tp.args] at h;omega
 | all s a =>
  match k,h with
  | 0,_=>simp[frs,Tp.args,Tp.sz]
  | k+1,h=>simp[Tp.args] at h
 | _=>simp[Tp.args] at h
abbrev zCY (t:Tp) (g out:List ByteArray):Prop :=
 CallsG Tryz.prog (fnv zHZ) [] [eTy t,.sl (eSs g),.sl (eSs out)] [0,0,2] fun r o h=>r = .sl (eSs (fr t g out))/\o=2/\h=[]
theorem zWB (N:Nat) (hN:N<1000000) (t:Tp) (hs:t.sz<=N+1) (g out:List ByteArray) (hg:g.length+t.sz<=2000000) (ho:out.length+t.sz<=1000000000)
  (ih:∀a∈t.args,∀g out:List ByteArray,g.length+a.sz<=2000000->out.length+a.sz<=1000000000->zCY a g out):zCY t g out:=by
 refine xM ttok mixed Tryz.func104 rfl (by rfl) (by rfl) (Nat.le_of_ble_eq_true rfl) (Nat.le_of_ble_eq_true rfl) (by kernel_rfl) ?_;have hgl:(eSs g).length=g.length:=by simp[eSs]
 have hol:(eSs out).length=out.length:=by simp[eSs]
 have hlen:t.eArgs.length=t.args.length:=zcD t;have h2:=zK8 t;refine⟨fun h=>?_,fun h=>?_⟩
 ·obtain⟨s,rfl⟩:=Tp.is_var (t:=t) (by simpa using h);refine .inl ⟨_,wK (l:=g) (s:=s) (by omega),?_⟩;refine⟨fun h1=>?_,fun h1=>?_⟩
  ·refine .inl ⟨_,wK (l:=out) (s:=s) (by omega),?_⟩;refine⟨fun h3=>?_,fun h3=>?_⟩
   ·have e:fr (.var s) g out=out:=by simp[fr,h3]
    rw[e];exact⟨rfl,rfl,rfl⟩
   ·have e:fr (.var s) g out=out++[s]:=by simp[fr,h1,h3]
    rw[e];refine⟨by simp[eSs];omega,yP _,yP [_],?_⟩;exact⟨congrArg AV.sl (zDA out s),rfl,rfl⟩
  ·have e:fr (.var s) g out=out:=by simp[fr,h1]
   rw[e];exact⟨rfl,rfl,rfl⟩
 ·have hf:¬t.form=2:=by simpa using h
  refine⟨fun h5=>?_,fun h5=>?_⟩
  ·obtain⟨s,a,rfl⟩:=Tp.is_all (t:=t) (by simpa using h5);refine⟨by simp[eSs];omega,zRQ _,yP _,?_⟩;refine⟨by simp[eSs];omega,by simpa using yP g,yP [_],?_⟩;refine⟨{k:Nat // k<=(Tp.all s a).args.length},fun k=>{vs:=[(1,.v (.sl (eSs (g++[s])))),(2,.v (.sl (eSs (frs ((Tp.all s a).args.take k.1) (g++[s]) out)))),(3,.box 0 (eTy (Tp.all s a))),(8,.v (.lit (.int .i64 (k.1:Nat))))],ow:=[(2,0,2)]},
    fun k=>(Tp.all s a).args.length-k.1,⟨0,Nat.zero_le _⟩,⟨⟨(congrArg (fun l=>SV.v (AV.sl l)) (zDA g s)),rfl,rfl,rfl,trivial⟩,⟨rfl,trivial⟩,rfl⟩,?_⟩
   rintro⟨k,hk⟩;have hrm:=fun h=>zR2 (Tp.all s a) (g++[s]) out (k:=k) h;refine⟨fun h=>?_,fun h=>?_⟩
   ·have h:k<(Tp.all s a).args.length:=by simp[hlen] at h;omega
    have hrm:=hrm h;refine⟨eTy (Tp.all s a).args[k],by simp,by rw[Tp.eArgs_eq];exact zQI h,rfl,?_⟩;refine .inr ⟨rfl,[],[],[0,0,2],_,rfl,List.nodup_nil,rfl,ih _ (List.getElem_mem h) (g++[s]) (frs ((Tp.all s a).args.take k) (g++[s]) out) (by simp;omega) (by omega),?_⟩;rintro _ _ _ ⟨rfl,rfl,rfl⟩;refine⟨⟨k+1,h⟩,(show (Tp.all s a).args.length-(k+1)<(Tp.all s a).args.length-k by omega),⟨rfl,?_,rfl,?_,trivial⟩,⟨rfl,trivial⟩,rfl⟩
    ·exact congrArg (fun l=>SV.v (AV.sl (eSs l))) (zH0 h).symm
    ·exact congrArg (fun n=>SV.v (AV.lit (Value.int .i64 n))) (wrap_succ (k:=k) (by omega))
   ·have h:k=(Tp.all s a).args.length:=by simp[hlen] at h;omega
    subst h;have e:fr (Tp.all s a) g out=frs ((Tp.all s a).args.take (Tp.all s a).args.length) (g++[s]) out:=by
     rw[List.take_length]
     rfl
    rw[e];exact⟨rfl,rfl,rfl⟩
  ·have h5:¬t.form=5:=by simpa using h5
   refine⟨{k:Nat // k<=t.args.length},fun k=>{vs:=[(1,.v (.sl (eSs g))),(2,.v (.sl (eSs (frs (t.args.take k.1) (g) out)))),(3,.box 0 (eTy t)),(8,.v (.lit (.int .i64 (k.1:Nat))))],ow:=[(2,0,2)]},
    fun k=>t.args.length-k.1,⟨0,Nat.zero_le _⟩,⟨⟨rfl,rfl,rfl,rfl,trivial⟩,⟨rfl,trivial⟩,rfl⟩,?_⟩
   rintro⟨k,hk⟩;have hrm:=fun h=>zR2 t g out (k:=k) h;refine⟨fun h=>?_,fun h=>?_⟩
   ·have h:k<t.args.length:=by simp[hlen] at h;omega
    have hrm:=hrm h;refine⟨eTy t.args[k],by simp,by rw[t.eArgs_eq];exact zQI h,rfl,?_⟩;refine .inr ⟨rfl,[],[],[0,0,2],_,rfl,List.nodup_nil,rfl,ih _ (List.getElem_mem h) (g) (frs (t.args.take k) (g) out) (by omega) (by omega),?_⟩;rintro _ _ _ ⟨rfl,rfl,rfl⟩;refine⟨⟨k+1,h⟩,(show t.args.length-(k+1)<t.args.length-k by omega),⟨rfl,?_,rfl,?_,trivial⟩,⟨rfl,trivial⟩,rfl⟩
    ·exact congrArg (fun l=>SV.v (AV.sl (eSs l))) (zH0 h).symm
    ·exact congrArg (fun n=>SV.v (AV.lit (Value.int .i64 n))) (wrap_succ (k:=k) (by omega))
   ·have h:k=t.args.length:=by simp[hlen] at h;omega
    subst h;have e:fr t g out=frs (t.args.take t.args.length) (g) out:=by
     rw[List.take_length];cases t<;>first|rfl|exact absurd rfl hf|exact absurd rfl h5
    rw[e];exact⟨rfl,rfl,rfl⟩
theorem zT6 (N:Nat) (hN:N<1000000):∀(t:Tp) (g out:List ByteArray),t.sz<=N->g.length+t.sz<=2000000->out.length+t.sz<=1000000000->zCY t g out:=by
 induction N with
 | zero=>intro t _ _ h;have:=zAF t;omega
 | succ N ih=>exact fun t g out h hg ho=>zWB N (by omega) t h g out hg ho fun a ha g out hg ho=>ih (by omega) a g out (z2Q h a ha) hg ho
theorem zH5 (t:Tp) (h:t.sz<1000000):zF Tryz.prog zCK [eTy t] (.sl (eSs (fv t))):=by
 refine zD ttok mixed Tryz.func61 rfl (by rfl) (Nat.le_of_ble_eq_true rfl) (by kernel_rfl) ?_;refine .inr ⟨rfl,[],[],[0,0,2],_,rfl,List.nodup_nil,rfl,zT6 t.sz h t [] [] (Nat.le_refl _) (by simp;omega) (by simp;omega),?_⟩;rintro _ _ _ ⟨rfl,rfl,rfl⟩;rw[z5D];exact rfl
def size:Tp->Nat
 | .app a b=>size a+size b
 | .all _ a=>1+size a
 | _=>1
def digs (l:List UInt8):Nat:=l.foldl (fun v c=>10*v+(c.toNat-48)) 0
theorem z0O (l:List UInt8) (c:UInt8):digs (l++[c])=10*digs l+(c.toNat-48):=by simp[digs]
theorem zKZ (x:UInt8):(ByteArray.mk #[x]).data.toList=[x]:=rfl
theorem zRN (a b:ByteArray):(a++b).data.toList=a.data.toList++b.data.toList:=by
 rw[show (a++b).data=a.data++b.data from ByteArray.data_append ..];simp
theorem zLU (n:Nat):digs (dcm n).data.toList=n:=by
 induction n using Nat.strongRecOn with
 | _ n ih =>
  by_cases h:n<10
  ·rw[zAW h,zKZ];simp[digs];omega
  ·rw[zFD h,zRN,zKZ,z0O,ih (n / 10) (by omega)];simp;omega
theorem zcI (n:Nat):0<(dcm n).data.toList.length:=by
 by_cases h:n<10
 ·rw[zAW h];simp
 ·rw[zFD h,zRN];simp
def deco (s:ByteArray):Nat:=match s.data.toList with
 | []=>0
 | [c]=>c.toNat-97
 | c::r=>26*digs r+(c.toNat-97)
theorem zJG (n:Nat):deco (lett n)=n:=by
 unfold lett;split
 ·rename_i h;unfold deco;rw[zKZ];simp;omega
 ·rename_i h;have hd:=zLU (n / 26);have hn:=zcI (n / 26);unfold deco;rw[zRN,zKZ];cases hr:(dcm (n / 26)).data.toList with
  | nil=>rw[hr] at hn;simp at hn
  | cons x r =>
   rw[hr] at hd;show 26*digs (x::r)+_=_;rw[hd];simp;omega
theorem zR3 {a b:Nat} (h:lett a=lett b):a=b:=by rw[<-zJG a,h,zJG]
theorem qV {α:Type} [DecidableEq α]:∀(l m:List α),l.Nodup->(∀x∈l,x∈m)->l.length<=m.length
 | [],_,_,_=>by simp
 | x::l,m,hn,hs=>by
  have hx:=hs x (by simp);have:=qV l (m.erase x) (List.nodup_cons.1 hn).2 (fun y hy=>(List.mem_erase_of_ne (fun e:y=x=>(List.nodup_cons.1 hn).1 (e ▸ hy))).2 (hs y (by simp[hy])));have:=List.length_erase_of_mem hx;have:0<m.length:=List.length_pos_of_mem hx;simp only[List.length_cons];omega
theorem least (p:Nat->Prop) (n:Nat) (h:p n):∃k,p k/\(∀j,j<k->¬p j)/\k<=n:=by
 induction n using Nat.strongRecOn with
 | _ n ih =>
  by_cases hx:∃j,j<n/\p j
  ·obtain⟨j,hj,hp⟩:=hx;obtain⟨k,h1,h2,h3⟩:=ih j hj hp;exact⟨k,h1,h2,by omega⟩
  ·exact⟨n,h,fun j hj hp=>hx ⟨j,hj,hp⟩,Nat.le_refl _⟩
theorem z81 (l:List ByteArray):∀s∈l,deco s<=(l.map deco).sum:=by
 induction l with
 | nil=>simp
 | cons x l ih =>
  intro s hs;simp only[List.map_cons,List.sum_cons];rcases List.mem_cons.1 hs with rfl|h
  ·omega
  ·have:=ih s h;omega
theorem z2F (l:List ByteArray):∃n,lett n∉l/\(∀j,j<n->lett j∈l):=by
 obtain⟨k,h1,h2,_⟩:=least (fun n=>lett n∉l) ((l.map deco).sum+1) (fun hm=>by have:=z81 l _ hm;rw[zJG] at this;omega);exact⟨k,h1,fun j hj=>Classical.not_not.1 (h2 j hj)⟩
noncomputable def ff (l:List ByteArray):Nat:=(z2F l).choose
theorem zBA (l:List ByteArray):lett (ff l)∉l:=(z2F l).choose_spec.1
theorem zGV (l:List ByteArray):∀j,j<ff l->lett j∈l:=(z2F l).choose_spec.2
theorem zQH (l:List ByteArray):ff l<=l.length:=by
 have:=qV ((List.range (ff l)).map lett) l (by
  rw[List.nodup_iff_pairwise_ne] at *;refine List.pairwise_map.2 (List.Pairwise.imp (fun h e=>h (zR3 e)) (List.nodup_range)))
  (fun x hx=>by obtain⟨j,hj,rfl⟩:=List.mem_map.1 hx;exact zGV l j (by simpa using hj))
 simpa using this
def Low (K:Nat) (s:ByteArray):Prop := ∃n,n<K/\lett n=s
theorem Low.mono {K L:Nat} {s:ByteArray} (h:Low K s) (hl:K<=L):Low L s:=let ⟨n,h1,h2⟩:=h;⟨n,by omega,h2⟩
theorem zUN {l:List ByteArray} (hf:ff l<2600) (hl:l.length<1000000000000000000):zF Tryz.prog zLE [.sl (eSs l)] (.lit (.string (lett (ff l)))):=by
 have hfl:=zQH l;refine zD ttok mixed Tryz.func129 rfl (by rfl) (Nat.le_of_ble_eq_true rfl) (by kernel_rfl) ?_;have e1:IntKind.i64.wrap (((eSs l).length:Nat)+1)=((l.length+1:Nat):Int):=by rw[show (eSs l).length=l.length by simp[eSs]];exact wrap_succ (by omega)
 refine⟨{k:Nat // k<=ff l},fun k=>{vs:=[(0,.v (.sl (eSs l))),(7,.v (.lit (.int .i64 ((l.length+1:Nat):Int)))),(8,.v (.lit (.int .i64 (k.1:Nat))))],ow:=[]},
  fun k=>ff l-k.1,⟨0,Nat.zero_le _⟩,⟨⟨rfl,congrArg (fun n=>SV.v (AV.lit (Value.int .i64 n))) e1,rfl,trivial⟩,trivial,rfl⟩,?_⟩
 rintro⟨k,hk⟩;refine⟨fun h3=>?_,fun h3=>by simp at h3;omega⟩;refine .inl ⟨_,zW1 (n:=k) (by omega),?_⟩;refine .inl ⟨_,xN (l:=l) (s:=lett k) (by omega),?_⟩;refine⟨fun h4=>?_,fun h4=>?_⟩
 ·have h4:lett k∉l:=fun hm=>by rw[zS hm] at h4;cases h4
  have:k=ff l:=by
   rcases Nat.lt_or_ge k (ff l) with q|q
   ·exact absurd (zGV l k q) h4
   ·omega
  subst this;exact rfl
 ·have h4:lett k∈l:=memb_iff.1 (by simpa using h4);have:k≠ff l:=fun e=>zBA l (e ▸ h4);refine⟨⟨k+1,by omega⟩,(show ff l-(k+1)<ff l-k by omega),⟨rfl,rfl,?_,trivial⟩,trivial,rfl⟩;exact congrArg (fun n=>SV.v (AV.lit (Value.int .i64 n))) (wrap_succ (k:=k) (by omega))
abbrev Env':=List (ByteArray×Tp)
def look (x:ByteArray):Env'->Option Tp
 | []=>none
 | (s,t)::r=>if s=x then some t else look x r
def kept (s:ByteArray) (own:List ByteArray) (ps:Env'):Env':=ps.filter fun p=>decide (p.1≠s) && memb p.1 own
def caught (ps:Env'):List ByteArray:=ps.flatMap fun p=>fv p.2
noncomputable def sub:Tp->Env'->Tp
 | .var x,ps=>(look x ps).getD (.var x)
 | .app a b,ps => .app (sub a ps) (sub b ps)
 | .all s a,ps=>if memb s (caught (kept s (fv a) ps)) then .all (lett (ff (caught (kept s (fv a) ps)++fv a))) (sub a (kept s (fv a) ps++[(s,.var (lett (ff (caught (kept s (fv a) ps)++fv a))))]))
   else .all s (sub a (kept s (fv a) ps))
 | t,_=>t
def zGG (K:Nat):Tp->Prop
 | .app a b=>zGG K a/\zGG K b
 | .all s a=>Low K s/\zGG K a
 | .var s=>Low K s
 | _=>True
def dp:Tp->Nat
 | .app a b=>max (dp a) (dp b)
 | .all _ a=>dp a+1
 | _=>0
theorem jG (t:Tp):dp t<=t.sz:=by
 induction t with
 | app a b iha ihb=>simp only[dp,Tp.sz];omega
 | all s a ih=>simp only[dp,Tp.sz];omega
 | _=>simp[dp]
theorem zC7 {x:ByteArray} {ps:Env'} {t:Tp} (h:look x ps=some t):(x,t)∈ps:=by
 induction ps with
 | nil=>cases h
 | cons p r ih =>
  obtain⟨s,u⟩:=p;simp only[look] at h;split at h
  ·rename_i e;subst e;injection h with h;subst h;simp
  ·exact List.mem_cons_of_mem _ (ih h)
theorem zLR {α:Type} [DecidableEq α] {s x:α} {l:List α} (h:s≠x) (hm:x∈l):ixI (s::l) x=ixI l x+1:=by
 rw[ixI,ixI,if_pos hm,if_pos (List.mem_cons_of_mem _ hm),List.idxOf_cons,show (s == x)=false from beq_eq_false_iff_ne.2 h]
 rfl
theorem zKW {x:ByteArray}:∀{ps:Env'},(look x ps=none/\x∉ps.map (·.1))∨(∃k:Nat,∃h:k<ps.length,ixI (ps.map (·.1)) x=(k:Nat)/\look x ps=some ps[k].2)
 | [] => .inl ⟨rfl,by simp⟩
 | (s,t)::r=>by
  by_cases hs:s=x
  ·subst hs;exact .inr ⟨0,by simp,by simp[ixI],by simp[look]⟩
  ·rcases zKW (x:=x) (ps:=r) with⟨h1,h2⟩|⟨k,hk,h1,h2⟩
   ·exact .inl ⟨by simp[look,hs,h1],fun hm=>by rcases List.mem_cons.1 hm with e|e;exact hs e.symm;exact h2 e⟩
   ·refine .inr ⟨k+1,by simpa using hk,?_,by simp[look,hs,h2]⟩;have hm:x∈r.map (·.1):=by
     by_cases hm:x∈r.map (·.1)
     ·exact hm
     ·rw[zGD hm] at h1;omega
    show ixI (s::r.map (·.1)) x=_;rw[zLR hs hm,h1];rfl
theorem zA8 {s:ByteArray} {own:List ByteArray} {ps:Env'} {p:ByteArray×Tp} (h:p∈kept s own ps):p∈ps:=(List.mem_filter.1 h).1
theorem zCD (s:ByteArray) (own:List ByteArray) (ps:Env'):(kept s own ps).length<=ps.length:=List.length_filter_le _ _
set_option maxHeartbeats 8000000
def eN (ps:Env'):List AV:=eSs (ps.map (·.1))
def eB (ps:Env'):List AV:=yA (ps.map (·.2))
theorem jV (ps:Env'):(eN ps).length=ps.length:=by simp[eN,eSs]
theorem zFC (ps:Env'):(eB ps).length=ps.length:=by simp[eB,yA]
theorem zKR (ps:Env') (s:ByteArray) (t:Tp):eN ps++[.lit (.string s)]=eN (ps++[(s,t)]):=by simp[eN,eSs]
theorem zK1 (ps:Env') (s:ByteArray) (t:Tp):eB ps++[eTy t]=eB (ps++[(s,t)]):=by simp[eB,yA]
theorem zQW {ps:Env'} {k:Nat} (h:k<ps.length):(eN ps)[k]? = some (.lit (.string ps[k].1)):=by simp[eN,eSs,h]
theorem zJM {ps:Env'} {k:Nat} (h:k<ps.length):(eB ps)[k]? = some (eTy ps[k].2):=by simp[eB,yA,h]
theorem zZT (ps:Env'):Uni 1 (eN ps):=yP _
theorem zZ8 (ps:Env'):Uni 4 (eB ps):=zN8 _
theorem zPN {s:ByteArray} {own:List ByteArray} {ps:Env'} {k:Nat} (h:k<ps.length):kept s own (ps.take (k+1))=kept s own (ps.take k)++(if decide (ps[k].1≠s) && memb ps[k].1 own then [ps[k]] else []):=by
 rw[List.take_succ_eq_append_getElem h];unfold kept;rw[List.filter_append];simp[List.filter_cons]
theorem zKE (ps:Env') (p:ByteArray×Tp):caught (ps++[p])=caught ps++fv p.2:=by simp[caught]
theorem zQA (l m:List ByteArray):eSs l++eSs m=eSs (l++m):=by simp[eSs]
abbrev qB (t:Tp) (ps:Env'):Prop:=zF Tryz.prog zOE [eTy t,.sl (eN ps),.sl (eB ps)] (eTy (sub t ps))
abbrev jK (t:Tp) (ps:Env'):Prop:=zF Tryz.prog zGS [eTy t,.sl (eN ps),.sl (eB ps)] (eTy (sub t ps))
theorem zUL:∀s∈xY,Low 24 s:=by
 have h:∀n:Nat,n<24->(lett n=⟨#[UInt8.ofNat (97+n)]⟩):=fun n hn=>by rw[lett,if_pos (by omega),Nat.mod_eq_of_lt (by omega)]
 intro s hs;unfold xY at hs;simp at hs;rcases hs with rfl|rfl|rfl|rfl
 ·exact⟨0,by decide,h 0 (by decide)⟩
 ·exact⟨1,by decide,h 1 (by decide)⟩
 ·exact⟨2,by decide,h 2 (by decide)⟩
 ·exact⟨23,by decide,h 23 (by decide)⟩
theorem mem_fv_app {a b:Tp} {x:ByteArray}:x∈fv (.app a b)↔x∈fv a∨x∈fv b:=by
 simp only[fv,mem_insAll,no];simp
theorem mem_fv_all {s:ByteArray} {a:Tp} {x:ByteArray}:x∈fv (.all s a)↔x∈fv a/\x≠s:=by
 simp only[fv,mem_insAll];simp
def Fo (ps:Env') (y x:ByteArray):Prop:=match look y ps with
 | none=>x=y
 | some u=>x∈fv u
theorem zY7 {y:ByteArray} {ps:Env'} (h:y∉ps.map (·.1)):look y ps=none:=by
 induction ps with
 | nil=>rfl
 | cons p r ih =>
  obtain⟨s,t⟩:=p;simp only[List.map_cons,List.mem_cons,not_or] at h;simp only[look];rw[if_neg (fun e=>h.1 e.symm)];exact ih h.2
theorem zCE {y:ByteArray} {ps qs:Env'}:look y (ps++qs)=match look y ps with|none=>look y qs|some u=>some u:=by
 induction ps with
 | nil=>rfl
 | cons p r ih =>
  obtain⟨s,t⟩:=p;simp only[List.cons_append,look];split
  ·rfl
  ·exact ih
theorem zOO {s y:ByteArray} {own:List ByteArray} {ps:Env'} (h1:y≠s) (h2:y∈own):look y (kept s own ps)=look y ps:=by
 induction ps with
 | nil=>rfl
 | cons p r ih =>
  obtain⟨n,t⟩:=p;unfold kept at ih⊢;by_cases hn:n=y
  ·subst hn;rw[List.filter_cons,if_pos (by rw[zS h2,decide_eq_true (p:=n≠s) h1];rfl)];simp[look]
  ·rw[List.filter_cons];split
   ·simp only[look,if_neg hn];exact ih
   ·simp only[look,if_neg hn];exact ih
theorem zKB {s:ByteArray} {own:List ByteArray} {ps:Env'}:look s (kept s own ps)=none:=by
 apply zY7;intro hm;obtain⟨p,hp,e⟩:=List.mem_map.1 hm;have:=(List.mem_filter.1 hp).2;rw[decide_eq_false (p:=p.1≠s) (fun h=>h e)] at this;cases this
theorem zLK (t:Tp):∀(ps:Env') (x:ByteArray),x∈fv (sub t ps)↔∃y,y∈fv t/\Fo ps y x:=by
 induction t with
 | var v =>
  intro ps x;simp only[sub,fv,List.mem_singleton,exists_eq_left,Fo];cases look v ps<;>simp[fv]
 | app a b iha ihb =>
  intro ps x;simp only[sub,mem_fv_app,iha,ihb];constructor
  ·rintro (⟨y,h1,h2⟩|⟨y,h1,h2⟩)
   ·exact⟨y,.inl h1,h2⟩
   ·exact⟨y,.inr h1,h2⟩
  ·rintro⟨y,h1|h1,h2⟩
   ·exact .inl ⟨y,h1,h2⟩
   ·exact .inr ⟨y,h1,h2⟩
 | all s a ih =>
  intro ps x;obtain⟨q,hq⟩:∃q,q=kept s (fv a) ps:=⟨_,rfl⟩
  have hl:∀y,y∈fv a->y≠s->look y q=look y ps:=fun y h1 h2=>by rw[hq];exact zOO h2 h1
  have hs:look s q=none:=by rw[hq];exact zKB
  have hcau:∀y u x,look y q=some u->x∈fv u->x∈caught q:=fun y u x h1 h2=>List.mem_flatMap.2 ⟨_,zC7 h1,h2⟩;simp only[sub,<-hq];split
  ·obtain⟨z,hz⟩:∃z,z=lett (ff (caught q++fv a)):=⟨_,rfl⟩
   have hnew:z∉caught q++fv a:=hz ▸ zBA _;rw[<-hz,mem_fv_all,ih];simp only[List.mem_append,not_or] at hnew;constructor
   ·rintro⟨⟨y,h1,h2⟩,h3⟩;unfold Fo at h2;rw[zCE] at h2;by_cases hy:y=s
    ·subst hy;rw[hs] at h2;simp[look,fv] at h2;exact absurd h2 h3
    ·refine⟨y,mem_fv_all.2 ⟨h1,hy⟩,?_⟩;unfold Fo;rw[<-hl y h1 hy];cases hc:look y q with
     | none=>rw[hc] at h2;simpa[look,Ne.symm hy] using h2
     | some u=>rw[hc] at h2;exact h2
   ·rintro⟨y,h1,h2⟩;obtain⟨h1,hy⟩:=mem_fv_all.1 h1;unfold Fo at h2;rw[<-hl y h1 hy] at h2;refine⟨⟨y,h1,?_⟩,?_⟩
    ·unfold Fo;rw[zCE];cases hc:look y q with
     | none=>rw[hc] at h2;simpa[look,Ne.symm hy] using h2
     | some u=>rw[hc] at h2;exact h2
    ·rintro rfl;cases hc:look y q with
     | none=>rw[hc] at h2;simp at h2;subst h2;exact hnew.2 h1
     | some u=>rw[hc] at h2;exact hnew.1 (hcau y u _ hc h2)
  ·rename_i hcap;have hns:s∉caught q:=fun h=>hcap (zS h);rw[mem_fv_all,ih];constructor
   ·rintro⟨⟨y,h1,h2⟩,h3⟩;by_cases hy:y=s
    ·subst hy;unfold Fo at h2;rw[hs] at h2;exact absurd h2 h3
    ·refine⟨y,mem_fv_all.2 ⟨h1,hy⟩,?_⟩;unfold Fo at h2⊢;rw[<-hl y h1 hy];exact h2
   ·rintro⟨y,h1,h2⟩;obtain⟨h1,hy⟩:=mem_fv_all.1 h1;unfold Fo at h2;rw[<-hl y h1 hy] at h2;refine⟨⟨y,h1,h2⟩,?_⟩;rintro rfl;cases hc:look y q with
    | none=>rw[hc] at h2;exact hy h2.symm
    | some u=>rw[hc] at h2;exact hns (hcau y u _ hc h2)
 | _=>intro ps x;simp[sub,fv]
def rest (own:List ByteArray) (ps:Env'):List ByteArray:=own.filter fun x => !memb x (ps.map (·.1))
def pl (l:List ByteArray) (s:ByteArray):Int:=if memb s l then (l.length:Int)-1-ixI l.reverse s else -1
theorem zZU {n k:Nat} (h:k<n) (hn:n<9223372036854775808):IntKind.i64.wrap (IntKind.i64.wrap ((n:Int)-1)-(k:Int))=((n-1-k:Nat):Int):=by
 have e1:(n:Int)-1=((n-1:Nat):Int):=by omega
 rw[e1,yH (by omega),show ((n-1:Nat):Int)-(k:Int)=((n-1-k:Nat):Int) by omega,yH (by omega)]
theorem zSI {l:List ByteArray} {s:ByteArray} (hl:l.length<9223372036854775807):zF Tryz.prog zN1 [.sl (eSs l),.lit (.string s)] (.lit (.int .i64 (pl l s))):=by
 refine zD ttok mixed Tryz.func149 rfl (by rfl) (Nat.le_of_ble_eq_true rfl) (by kernel_rfl) ?_;have hlen:(eSs l).length=l.length:=by simp[eSs]
 have hrl:l.reverse.length=l.length:=by simp
 refine⟨{k:Nat // k<=l.length/\∀j,j<k->l.reverse[j]?≠some s},fun k=>{vs:=[(0,.v (.sl (eSs l))),(1,.v (.lit (.string s))),(8,.v (.lit (.int .i64 ((eSs l).length:Nat)))),(9,.v (.lit (.int .i64 (k.1:Nat))))],ow:=[]},
  fun k=>l.length-k.1,⟨0,Nat.zero_le _,fun j hj=>absurd hj (by omega)⟩,⟨⟨rfl,rfl,rfl,rfl,trivial⟩,trivial,rfl⟩,?_⟩
 rintro⟨k,hk,hn⟩;refine⟨fun h=>?_,fun h=>?_⟩
 ·have h:k<l.length:=by simp[hlen] at h;omega
  have ew:IntKind.i64.wrap (IntKind.i64.wrap (((eSs l).length:Nat)-1)-(k:Int))=((l.length-1-k:Nat):Int):=by rw[hlen];exact zZU h (by omega)
  have hi:l.length-1-k<l.length:=by omega
  have hrev:l.reverse[k]'(by omega)=l[l.length-1-k]:=by simp[List.getElem_reverse]
  refine⟨.lit (.string l[l.length-1-k]),by rw[ew];omega,by rw[ew];exact zEK hi,rfl,?_⟩;refine⟨fun h2=>?_,fun h2=>?_⟩
  ·have h2:l[l.length-1-k]=s:=of_decide_eq_true h2;have hp:pl l s=((l.length-1-k:Nat):Int):=by
    rw[pl,zS (h2 ▸ List.getElem_mem hi),if_pos rfl,zML (l:=l.reverse) (k:=k) (by omega) (by rw[hrev,h2]) hn];omega
   rw[hp,<-ew];exact rfl
  ·have h2:l[l.length-1-k]≠s:=of_decide_eq_false h2;refine⟨⟨k+1,h,zH1 (l:=l.reverse) (by omega) (by rw[hrev];exact h2) hn⟩,(show l.length-(k+1)<l.length-k by omega),⟨rfl,rfl,rfl,?_,trivial⟩,trivial,rfl⟩;exact congrArg (fun n=>SV.v (AV.lit (Value.int .i64 n))) (wrap_succ (k:=k) (by omega))
 ·have h:k=l.length:=by simp[hlen] at h;omega
  subst h;have hp:pl l s = -1:=by
   rw[pl,yM (fun hm=>zAS (l:=l.reverse) (by rw[hrl];exact hn) (List.mem_reverse.2 hm))];rfl
  rw[hp];exact rfl
def smb:Tp->Tp->List ByteArray->List ByteArray->Bool
 | .all s a,.all r b,x,y=>smb a b (x++[s]) (y++[r])
 | .var s,.var r,x,y=>decide (pl x s=pl y r) && (decide (0<=pl x s) || decide (s=r))
 | .app a b,.app c d,x,y=>smb a c x y && smb b d x y
 | .con s,.con r,_,_=>decide (s=r)
 | .mt n,.mt m,_,_=>decide (n=m)
 | .no,.no,_,_=>true
 | _,_,_,_=>false
theorem zPK (l:List AV):List.drop (Int.toNat 0) (List.take (Int.toNat ((l.length:Nat):Int)) l)=l:=by simp
inductive Db where
 | no
 | mt (n:Int)
 | bv (i:Nat)
 | fr (s:ByteArray)
 | con (s:ByteArray)
 | app (a b:Db)
 | all (a:Db)
def ixN {α:Type} [DecidableEq α]:List α->α->Nat
 | [],_=>0
 | x::l,s=>if x=s then 0 else ixN l s+1
def db:Tp->List ByteArray->Db
 | .no,_ => .no
 | .mt n,_ => .mt n
 | .con s,_ => .con s
 | .var s,e=>if memb s e then .bv (ixN e s) else .fr s
 | .app a b,e => .app (db a e) (db b e)
 | .all s a,e => .all (db a (s::e))
def sb (σ:ByteArray->Db):Db->Db
 | .fr s=>σ s
 | .app a b => .app (sb σ a) (sb σ b)
 | .all a => .all (sb σ a)
 | d=>d
theorem zI1 {α:Type} [DecidableEq α] {l:List α} {s:α} (h:s∈l):ixN l s<l.length:=by
 induction l with
 | nil=>cases h
 | cons x l ih =>
  simp only[ixN,List.length_cons];split
  ·omega
  ·rename_i hx;rcases List.mem_cons.1 h with e|e
   ·exact absurd e.symm hx
   ·have:=ih e;omega
theorem z3N {α:Type} [DecidableEq α] {l:List α} {s:α} (h:s∈l):ixI l s=(ixN l s:Nat):=by
 induction l with
 | nil=>cases h
 | cons x l ih =>
  simp only[ixN];split
  ·rename_i hx;subst hx;simp[ixI]
  ·rename_i hx;rcases List.mem_cons.1 h with e|e
   ·exact absurd e.symm hx
   ·rw[zLR hx e,ih e];rfl
theorem zbI {x:List ByteArray} {s:ByteArray}:(s∈x->pl x s=(x.length:Int)-1-(ixN x.reverse s:Nat))/\(s∉x->pl x s = -1):=by
 constructor
 ·intro h;rw[pl,zS h,if_pos rfl,z3N (List.mem_reverse.2 h)]
 ·intro h;rw[pl,yM h];rfl
theorem zT8 {x:List ByteArray} {s:ByteArray}:memb s x.reverse=memb s x:=by
 by_cases h:s∈x
 ·rw[zS h,zS (List.mem_reverse.2 h)]
 ·rw[yM h,yM (fun e=>h (List.mem_reverse.1 e))]
theorem zP8:∀(a b:Tp) (x y:List ByteArray),x.length=y.length->(smb a b x y=true↔db a x.reverse=db b y.reverse):=by
 intro a;induction a with
 | no=>intro b x y h;cases b<;>simp[smb,db];split<;>simp
 | mt n=>intro b x y h;cases b<;>simp[smb,db];split<;>simp
 | con s=>intro b x y h;cases b<;>simp[smb,db];split<;>simp
 | var s =>
  intro b x y h;cases b with
  | var r =>
   obtain⟨p1,p2⟩:=zbI (x:=x) (s:=s);obtain⟨q1,q2⟩:=zbI (x:=y) (s:=r);simp only[smb,db,zT8];by_cases hs:s∈x
   ·have p1:=p1 hs;have l1:=zI1 (List.mem_reverse.2 hs);rw[List.length_reverse] at l1;rw[zS hs,if_pos rfl];by_cases hr:r∈y
    ·have q1:=q1 hr;rw[zS hr,if_pos rfl];simp only[Bool.and_eq_true,Bool.or_eq_true,decide_eq_true_eq,Db.bv.injEq];omega
    ·have q2:=q2 hr;rw[yM hr];simp only[Bool.and_eq_true,Bool.or_eq_true,decide_eq_true_eq,Bool.false_eq_true,if_false];constructor
     ·rintro⟨e,_⟩;omega
     ·intro e;cases e
   ·have p2:=p2 hs;rw[yM hs];by_cases hr:r∈y
    ·have q1:=q1 hr;have l1:=zI1 (List.mem_reverse.2 hr);rw[List.length_reverse] at l1;rw[zS hr];simp only[Bool.and_eq_true,Bool.or_eq_true,decide_eq_true_eq,Bool.false_eq_true,if_false,if_true];constructor
     ·rintro⟨e,_⟩;omega
     ·intro e;cases e
    ·have q2:=q2 hr;rw[yM hr];simp only[Bool.and_eq_true,Bool.or_eq_true,decide_eq_true_eq,Bool.false_eq_true,if_false,Db.fr.injEq];constructor
     ·rintro⟨e,h1|h1⟩
      ·omega
      ·exact h1
     ·intro e;exact⟨by omega,.inr e⟩
  | _=>simp only[smb,db];split<;>simp
 | app a1 a2 ih1 ih2 =>
  intro b x y h;cases b with
  | app b1 b2=>simp only[smb,db,Bool.and_eq_true,ih1 b1 x y h,ih2 b2 x y h,Db.app.injEq]
  | var s=>simp only[smb,db];split<;>simp
  | _=>simp[smb,db]
 | all s a ih =>
  intro b x y h;cases b with
  | all r b =>
   have:=ih b (x++[s]) (y++[r]) (by simp[h]);simp only[List.reverse_append,List.reverse_cons,List.reverse_nil,List.nil_append,List.singleton_append] at this;simp only[smb,db,this,Db.all.injEq]
  | var s=>simp only[smb,db];split<;>simp
  | _=>simp[smb,db]
theorem z2K {a b:Tp} (h:db a []=db b []):smb a b [] []=true:=(zP8 a b [] [] rfl).2 h
def yV (y:ByteArray) (ps:Env'):Tp:=(look y ps).getD (.var y)
theorem zH9 {α:Type} [DecidableEq α] {l e:List α} {s:α} (hl:s∈l):ixN (l++e) s=ixN l s:=by
 induction l with
 | nil=>cases hl
 | cons y l ih =>
  simp only[List.cons_append,ixN];split
  ·rfl
  ·rename_i hy;rcases List.mem_cons.1 hl with e1|e1
   ·exact absurd e1.symm hy
   ·rw[ih e1]
theorem zQ0 (t:Tp):∀(l e:List ByteArray),(∀x∈fv t,x∉l->x∉e)->db t (l++e)=db t l:=by
 induction t with
 | var s =>
  intro l e h;have h:=h s (by simp[fv]);simp only[db];by_cases hl:s∈l
  ·rw[zS hl,zS (List.mem_append_left _ hl),if_pos rfl,if_pos rfl];rw[zH9 hl]
  ·rw[yM hl,yM (fun hm=>(List.mem_append.1 hm).elim hl (h hl))]
   rfl
 | app a b iha ihb =>
  intro l e h;simp only[db];rw[iha l e (fun x hx=>h x (mem_fv_app.2 (.inl hx))),ihb l e (fun x hx=>h x (mem_fv_app.2 (.inr hx)))]
 | all s a ih =>
  intro l e h;simp only[db];rw[<-List.cons_append,ih (s::l) e (fun x hx hn=>by
   simp only[List.mem_cons,not_or] at hn;exact h x (mem_fv_all.2 ⟨hx,hn.1⟩) hn.2)]
 | _=>intro l e h;rfl
theorem zBC {α:Type} [DecidableEq α] {l:List α} {w s:α} (h:w≠s):ixN (w::l) s=ixN l s+1:=by simp[ixN,h]
theorem z5C (t:Tp):∀(ps:Env') (e e':List ByteArray) (σ:ByteArray->Db),
  (∀y∈fv t,(y∈e/\∃y',yV y ps = .var y'/\y'∈e'/\ixN e' y'=ixN e y)∨(y∉e/\(∀x∈fv (yV y ps),x∉e')/\σ y=db (yV y ps) [])) ->
  db (sub t ps) e'=sb σ (db t e):=by
 induction t with
 | var s =>
  intro ps e e' σ h;have h:=h s (by simp[fv]);show db (yV s ps) e'=_;rcases h with⟨h1,y',h2,h3,h4⟩|⟨h1,h2,h3⟩
  ·rw[h2];simp only[db];rw[zS h3,zS h1,if_pos rfl,if_pos rfl,h4];rfl
  ·have:=zQ0 (yV s ps) [] e' (fun x hx _=>h2 x hx);rw[List.nil_append] at this;simp only[db];rw[yM h1,this,<-h3]
   rfl
 | app a b iha ihb =>
  intro ps e e' σ h;simp only[sub,db,sb];rw[iha ps e e' σ (fun y hy=>h y (mem_fv_app.2 (.inl hy))),ihb ps e e' σ (fun y hy=>h y (mem_fv_app.2 (.inr hy)))]
 | all s a ih =>
  intro ps e e' σ h;obtain⟨q,hq⟩:∃q,q=kept s (fv a) ps:=⟨_,rfl⟩
  have hl:∀y,y∈fv a->y≠s->look y q=look y ps:=fun y h1 h2=>by rw[hq];exact zOO h2 h1
  have hs:look s q=none:=by rw[hq];exact zKB
  have hcau:∀y u x,look y q=some u->x∈fv u->x∈caught q:=fun y u x h1 h2=>List.mem_flatMap.2 ⟨_,zC7 h1,h2⟩;have key:∀(w:ByteArray) (ps':Env'),yV s ps' = .var w->(∀y,y∈fv a->y≠s->yV y ps'=yV y ps)->(∀y,y∈fv a->y≠s->w∉fv (yV y ps)) ->
    db (sub a ps') (w::e')=sb σ (db a (s::e)):=fun w ps' k1 k2 k3=>by
   refine ih ps' (s::e) (w::e') σ fun y hy=>?_;by_cases hys:y=s
   ·subst hys;exact .inl ⟨by simp,w,k1,by simp,by simp[ixN]⟩
   ·have hw:=k3 y hy hys;rcases h y (mem_fv_all.2 ⟨hy,hys⟩) with⟨h1,y',h2,h3,h4⟩|⟨h1,h2,h3⟩
    ·rw[h2] at hw;have hne:w≠y':=fun e=>hw (by simp[fv,e]);refine .inl ⟨by simp[h1],y',by rw[k2 y hy hys,h2],by simp[h3],?_⟩;rw[zBC hne,zBC (Ne.symm hys),h4]
    ·refine .inr ⟨by simp[hys,h1],fun x hx=>?_,by rw[k2 y hy hys,h3]⟩;rw[k2 y hy hys] at hx;simp only[List.mem_cons,not_or];exact⟨fun e=>hw (e ▸ hx),h2 x hx⟩
  simp only[sub,<-hq];split
  ·obtain⟨z,hz⟩:∃z,z=lett (ff (caught q++fv a)):=⟨_,rfl⟩
   have hnew:z∉caught q++fv a:=hz ▸ zBA _;simp only[List.mem_append,not_or] at hnew;rw[<-hz];simp only[db,sb];refine congrArg Db.all (key z (q++[(s,.var z)]) (by simp[yV,zCE,hs,look]) (fun y h1 h2=>?_) (fun y h1 h2 h3=>?_))
   ·unfold yV;rw[zCE,<-hl y h1 h2];cases look y q with
    | none=>simp[look,Ne.symm h2]
    | some u=>rfl
   ·unfold yV at h3;rw[<-hl y h1 h2] at h3;cases hc:look y q with
    | none=>rw[hc] at h3;simp[fv] at h3;subst h3;exact hnew.2 h1
    | some u=>rw[hc] at h3;exact hnew.1 (hcau y u _ hc h3)
  ·rename_i hcap;have hns:s∉caught q:=fun h=>hcap (zS h);simp only[db,sb];refine congrArg Db.all (key s q (by simp[yV,hs]) (fun y h1 h2=>by unfold yV;rw[hl y h1 h2]) (fun y h1 h2 h3=>?_));unfold yV at h3;rw[<-hl y h1 h2] at h3;cases hc:look y q with
   | none=>rw[hc] at h3;simp[fv] at h3;exact h2 h3.symm
   | some u=>rw[hc] at h3;exact hns (hcau y u _ hc h3)
 | _=>intro ps e e' σ h;rfl
theorem zRD (t:Tp) (ps:Env'):db (sub t ps) []=sb (fun y=>db (yV y ps) []) (db t []) :=
 z5C t ps [] [] _ fun y _ => .inr ⟨by simp,fun x _=>by simp,rfl⟩
theorem zJZ (d:Db):sb .fr d=d:=by
 induction d with
 | app a b iha ihb=>simp only[sb,iha,ihb]
 | all a ih=>simp only[sb,ih]
 | _=>rfl
end Go.Proofs.YtdmbahepaglcbaaGreatDoor
