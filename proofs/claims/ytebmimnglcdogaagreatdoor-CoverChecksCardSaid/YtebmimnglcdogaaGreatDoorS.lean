/- Whether types are the same, however great. No condition but on how deep types for all stand. -/
import Derived.Test.YtebmimnglcdogaaGreatDoorR
import Derived.Test.YtebmimnglcdogaaGreatDoorL
set_option linter.unusedSimpArgs false
set_option linter.unusedVariables false
namespace Go.Proofs.YtebmimnglcdogaaGreatDoor.Ck
open Go Fp
set_option maxRecDepth 100000
set_option maxHeartbeats 8000000
set_option linter.unusedVariables false
theorem zW5 (N:Nat):∀(a b:Tp) (x y:List ByteArray),a.sz<=N->x.length+dp a<=4000000000->y.length+dp a<=4000000000->zB Tryz.prog zMS [eTy a,eTy b,.sl (eSs x),.sl (eSs y)] (.sb (smb a b x y)):=by
 induction N with
 | zero=>intro a b x y h;have:=zKS a;omega
 | succ N ih =>
  intro a b x y hs hx hy;have hxl:(eSs x).length=x.length:=by simp[eSs]
  have hyl:(eSs y).length=y.length:=by simp[eSs]
  by_cases hform:a.form=b.form
  ·cases a<;>cases b<;>try (simp[Tp.form] at hform;done)
   ·refine zD ttok mixed Tryz.func53 rfl (by rfl) (Nat.le_of_ble_eq_true rfl) (by kernel_rfl) ?_;refine⟨fun _=>?_,fun h=>(by cases h)⟩;refine⟨fun _=>?_,fun h=>(by cases h)⟩;refine⟨fun h=>(by cases h),fun _=>?_⟩;refine⟨fun h=>(by cases h),fun _=>?_⟩;refine⟨fun h=>(by cases h),fun _=>?_⟩;refine⟨fun h=>(by simp at h),fun _=>?_⟩;refine⟨{k:Nat // k<=0},fun k=>{vs:=[(97,.v (.lit (.int .i64 0))),(98,.v (.lit (.int .i64 0)))],ow:=[]},fun _=>0,⟨0,Nat.le_refl _⟩,⟨⟨rfl,rfl,trivial⟩,trivial,rfl⟩,?_⟩;rintro⟨k,hk⟩;refine⟨fun h=>(by cases h),fun _=>?_⟩;exact rfl
   ·rename_i n m;refine zD ttok mixed Tryz.func53 rfl (by rfl) (Nat.le_of_ble_eq_true rfl) (by kernel_rfl) ?_;refine⟨fun _=>?_,fun h=>(by cases h)⟩;refine⟨fun h=>?_,fun h=>?_⟩
    ·have hnm:n=m:=Classical.byContradiction fun e=>by
      have h':(!decide (n=m))=false:=h;rw[decide_eq_false e] at h';cases h'
     subst hnm;have es:smb (.mt n) (.mt n) x y=true:=by simp[smb]
     rw[es];refine⟨fun h=>(by cases h),fun _=>?_⟩;refine⟨fun h=>(by cases h),fun _=>?_⟩;refine⟨fun h=>(by cases h),fun _=>?_⟩;refine⟨fun h=>(by simp at h),fun _=>?_⟩;refine⟨{k:Nat // k<=0},fun k=>{vs:=[(97,.v (.lit (.int .i64 0))),(98,.v (.lit (.int .i64 0)))],ow:=[]},fun _=>0,⟨0,Nat.le_refl _⟩,⟨⟨rfl,rfl,trivial⟩,trivial,rfl⟩,?_⟩;rintro⟨k,hk⟩;refine⟨fun h=>(by cases h),fun _=>?_⟩;exact rfl
    ·have es:smb (.mt n) (.mt m) x y=false:=by
      have h':(!decide (n=m))=true:=h;simpa[smb] using h'
     rw[es];exact rfl
   ·rename_i s r;refine zD ttok mixed Tryz.func53 rfl (by rfl) (Nat.le_of_ble_eq_true rfl) (by kernel_rfl) ?_;refine⟨fun _=>?_,fun h=>(by cases h)⟩;refine⟨fun _=>?_,fun h=>(by cases h)⟩;refine⟨fun h=>(by cases h),fun _=>?_⟩;refine⟨fun h=>(by cases h),fun _=>?_⟩;refine⟨fun _=>?_,fun h=>(by cases h)⟩;refine .inl ⟨_,zOA (l:=x) (s:=s) (by omega),?_⟩;refine .inl ⟨_,zOA (l:=y) (s:=r) (by omega),?_⟩;refine⟨fun h1=>?_,fun h1=>?_⟩
    ·refine⟨fun h2=>?_,fun h2=>?_⟩
     ·have es:smb (.var s) (.var r) x y=decide (s=r):=by
       simp only[smb];rw[h1,h2];rfl
      rw[es];exact rfl
     ·have es:smb (.var s) (.var r) x y=true:=by
       simp only[smb];rw[h1,h2];rfl
      rw[es];exact rfl
    ·have es:smb (.var s) (.var r) x y=false:=by
      simp only[smb];rw[h1];rfl
     rw[es];exact rfl
   ·rename_i s r;refine zD ttok mixed Tryz.func53 rfl (by rfl) (Nat.le_of_ble_eq_true rfl) (by kernel_rfl) ?_;refine⟨fun _=>?_,fun h=>(by cases h)⟩;refine⟨fun _=>?_,fun h=>(by cases h)⟩;refine⟨fun h=>(by cases h),fun _=>?_⟩;refine⟨fun h=>(by cases h),fun _=>?_⟩;refine⟨fun h=>(by cases h),fun _=>?_⟩;refine⟨fun h=>?_,fun h=>?_⟩
    ·have es:smb (.con s) (.con r) x y=false:=by
      have h':(!decide (s=r))=true:=h;simpa[smb] using h'
     rw[es];exact rfl
    ·have es:smb (.con s) (.con r) x y=true:=by
      have h':(!decide (s=r))=false:=h;simpa[smb] using h'
     rw[es];refine⟨{k:Nat // k<=0},fun k=>{vs:=[(97,.v (.lit (.int .i64 0))),(98,.v (.lit (.int .i64 0)))],ow:=[]},fun _=>0,⟨0,Nat.le_refl _⟩,⟨⟨rfl,rfl,trivial⟩,trivial,rfl⟩,?_⟩;rintro⟨k,hk⟩;refine⟨fun h=>(by cases h),fun _=>?_⟩;exact rfl
   ·rename_i a1 a2 b1 b2;simp only[Tp.sz] at hs;simp only[dp] at hx hy;have i1:=ih a1 b1 x y (by omega) (by omega) (by omega);have i2:=ih a2 b2 x y (by omega) (by omega) (by omega);refine zD ttok mixed Tryz.func53 rfl (by rfl) (Nat.le_of_ble_eq_true rfl) (by kernel_rfl) ?_;refine⟨fun _=>?_,fun h=>(by cases h)⟩;refine⟨fun _=>?_,fun h=>(by cases h)⟩;refine⟨fun h=>(by cases h),fun _=>?_⟩;refine⟨fun h=>(by cases h),fun _=>?_⟩;refine⟨fun h=>(by cases h),fun _=>?_⟩;refine⟨fun h=>(by simp[Tp.nam] at h),fun _=>?_⟩;refine⟨{k:Nat // k=0∨(k=1/\smb a1 b1 x y=true)∨(k=2/\smb a1 b1 x y=true/\smb a2 b2 x y=true)},fun k=>{vs:=[(2,.v (.sl (eSs x))),(3,.v (.sl (eSs y))),(4,.box 0 (eTy (.app a1 a2))),(5,.box 0 (eTy (.app b1 b2))),(97,.v (.lit (.int .i64 2))),(98,.v (.lit (.int .i64 (k.1:Nat))))],ow:=[]},
     fun k=>2-k.1,⟨0,.inl rfl⟩,⟨⟨rfl,rfl,rfl,rfl,rfl,rfl,trivial⟩,trivial,rfl⟩,?_⟩
    rintro⟨k,rfl|⟨rfl,h1⟩|⟨rfl,h1,h2⟩⟩
    ·refine⟨fun _=>?_,fun h=>(by cases h)⟩;refine⟨eTy a1,Int.le_refl 0,rfl,rfl,?_⟩;refine⟨eTy b1,Int.le_refl 0,rfl,rfl,?_⟩;refine .inl ⟨_,i1,?_⟩;refine⟨fun h=>?_,fun h=>?_⟩
     ·have es:smb (.app a1 a2) (.app b1 b2) x y=false:=by
       have h':smb a1 b1 x y=false:=by simpa using h
       simp[smb,h']
      rw[es];exact rfl
     ·have h':smb a1 b1 x y=true:=by simpa using h
      exact⟨⟨1,.inr (.inl ⟨rfl,h'⟩)⟩,(show 2-1<2-0 by omega),⟨rfl,rfl,rfl,rfl,rfl,rfl,trivial⟩,trivial,rfl⟩
    ·refine⟨fun _=>?_,fun h=>(by cases h)⟩;refine⟨eTy a2,Int.natCast_nonneg 1,rfl,rfl,?_⟩;refine⟨eTy b2,Int.natCast_nonneg 1,rfl,rfl,?_⟩;refine .inl ⟨_,i2,?_⟩;refine⟨fun h=>?_,fun h=>?_⟩
     ·have es:smb (.app a1 a2) (.app b1 b2) x y=false:=by
       have h':smb a2 b2 x y=false:=by simpa using h
       simp[smb,h']
      rw[es];exact rfl
     ·have h':smb a2 b2 x y=true:=by simpa using h
      exact⟨⟨2,.inr (.inr ⟨rfl,h1,h'⟩)⟩,(show 2-2<2-1 by omega),⟨rfl,rfl,rfl,rfl,rfl,rfl,trivial⟩,trivial,rfl⟩
    ·refine⟨fun h=>(by cases h),fun _=>?_⟩;have es:smb (.app a1 a2) (.app b1 b2) x y=true:=by simp[smb,h1,h2]
     rw[es];exact rfl
   ·rename_i s a r b;simp only[Tp.sz] at hs;simp only[dp] at hx hy;have i1:=ih a b (x++[s]) (y++[r]) (by omega) (by simp;omega) (by simp;omega);rw[<-zPH,<-zPH] at i1;have hfx:=zL3 (eSs x);have hfy:=zL3 (eSs y);rw[<-hfx,<-hfy] at i1;refine zD ttok mixed Tryz.func53 rfl (by rfl) (Nat.le_of_ble_eq_true rfl) (by kernel_rfl) ?_;refine⟨fun _=>?_,fun h=>(by cases h)⟩;refine⟨fun _=>?_,fun h=>(by cases h)⟩;refine⟨fun h=>(by cases h),fun _=>?_⟩;refine⟨fun _=>?_,fun h=>(by cases h)⟩;refine⟨_,by decide,rfl,rfl,?_⟩;refine⟨_,by decide,rfl,rfl,?_⟩;refine⟨by decide,by omega,Int.le_refl _,rfl,.inl rfl,?_⟩;refine⟨by rw[hfx,hxl];simp;omega,by rw[hfx];exact jU _,jU [_],?_⟩;refine⟨by decide,by omega,Int.le_refl _,rfl,.inl rfl,?_⟩;refine⟨by rw[hfy,hyl];simp;omega,by rw[hfy];exact jU _,jU [_],?_⟩;refine .inl ⟨_,i1,?_⟩;exact rfl
  ·have es:smb a b x y=false:=by cases a<;>cases b<;>first|rfl|exact absurd rfl hform
   rw[es];refine zD ttok mixed Tryz.func53 rfl (by rfl) (Nat.le_of_ble_eq_true rfl) (by kernel_rfl) ?_;refine⟨fun h=>?_,fun _=>?_⟩
   ·have h':(!decide (a.form=b.form))=false:=h;rw[decide_eq_false hform] at h';cases h'
   ·exact rfl
theorem sameTX_ok (a b:Tp) (h:dp a<1000000000):zB Tryz.prog zNQ [eTy a,eTy b] (.sb (smb a b [] [])):=by
 refine zD ttok mixed Tryz.func18 rfl (by rfl) (Nat.le_of_ble_eq_true rfl) (by kernel_rfl) ?_;refine .inl ⟨_,zW5 a.sz a b [] [] (Nat.le_refl _) (by simp;omega) (by simp;omega),?_⟩;exact rfl
theorem qB {b:Bool} (h:b=true):zB Tryz.prog 82 [.sb b] (.tup []):=by subst h;exact zXB
theorem z4P (f:Fd) (s:ByteArray) (ts:List AV):zB Tryz.prog 145 [eFd f,.ptr (.lit (.string s)::ts)] (.sb (decide (f.nm=s))):=by
 refine zA ttok mixed Tryz.func145 rfl (by rfl) (Nat.le_of_ble_eq_true rfl) (by kernel_rfl) ?_;exact rfl
theorem z2Q {l:List Fd} {k:Nat} (h:k<l.length):(eFds l)[k]? = some (eFd l[k]):=by simp[eFds,h]
theorem z6A (l:List Fd):(eFds l).length=l.length:=by simp[eFds]
theorem z0J (fs:List Fd) (s:ByteArray) (ts:List AV) (hl:fs.length<10000000):zB Tryz.prog 144 [.sl (eFds fs),.fn (.func 145) [] [.ptr (.lit (.string s)::ts)]] (.lit (.int .i64 (ixI (fs.map Fd.nm) s))):=by
 refine zA ttok mixed Tryz.func144 rfl (by rfl) (Nat.le_of_ble_eq_true rfl) (by kernel_rfl) ?_;refine⟨{k:Nat // k<=fs.length/\∀j,j<k->(fs.map Fd.nm)[j]?≠some s},fun k=>{vs:=[(0,.v (.sl (eFds fs))),(1,.v (.fn (.func 145) [] [.ptr (.lit (.string s)::ts)])),(7,sv (fs.length:Nat)),(8,sv (k.1:Nat))]},
  fun k=>fs.length-k.1,⟨0,Nat.zero_le _,fun j h=>by omega⟩,⟨⟨rfl,rfl,svc (by rw[z6A]),rfl,trivial⟩,trivial,rfl⟩,?_⟩
 rintro⟨k,hk,hinv⟩;refine⟨fun h=>?_,fun h=>?_⟩
 ·have h:k<fs.length:=by have h:=of_decide_eq_true h;simp only at h;omega
  have hm:(fs.map Fd.nm)[k]? = some fs[k].nm:=by simp[h]
  refine⟨_,by omega,z2Q h,rfl,?_⟩;refine .inl ⟨_,z4P fs[k] s ts,?_⟩;refine⟨fun h2=>?_,fun h2=>?_⟩
  ·have h2:fs[k].nm=s:=of_decide_eq_true h2;have:ixI (fs.map Fd.nm) s=(k:Nat):=zRH (l:=fs.map Fd.nm) (by simpa using h) (by simpa using h2) hinv;rw[this];exact rfl
  ·have h2:¬fs[k].nm=s:=of_decide_eq_false h2;refine⟨⟨k+1,h,fun j hj=>?_⟩,by simp;omega,⟨rfl,rfl,rfl,svc (wrap_succ (k:=k) (by omega)),trivial⟩,trivial,rfl⟩;rcases Nat.lt_or_ge j k with hlt|hge
   ·exact hinv j hlt
   ·have:j=k:=by omega
    subst this;rw[hm];intro e;exact h2 (Option.some.inj e)
 ·have h:k=fs.length:=by have h:=of_decide_eq_false h;simp only at h;omega
  have:ixI (fs.map Fd.nm) s = -1:=zNO (zEU fun j hj=>hinv j (by rw[List.length_map] at hj;omega));rw[this];exact rfl
theorem zYW (w:Wd) (s:ByteArray) {i:Nat} (hl:w.fs.length<10000000) (hi:i<w.fs.length) (hix:ixI (w.fs.map Fd.nm) s=(i:Nat)):zB Tryz.prog 124 [eW w,.lit (.string s)] (eFd w.fs[i]):=by
 refine zA ttok mixed Tryz.func124 rfl (by rfl) (Nat.le_of_ble_eq_true rfl) (by kernel_rfl) ?_;refine .inl ?_;refine .inl ⟨_,z0J w.fs s [] hl,?_⟩;rw[hix];refine .inl ⟨_,qB (decide_eq_true (by omega)),?_⟩;refine⟨_,by omega,z2Q hi,rfl,?_⟩;exact rfl
theorem zW9 (l:List Tp):Uni 4 (zQ l):=fun a ha=>by obtain⟨x,_,rfl⟩:=List.mem_map.1 ha;rfl
def fl (l:List Tp) (rest:List AV):List AV:=(zQ l).flatMap AV.cells++rest
theorem zCS (t:Tp) (l:List Tp) (rest:List AV):fl (t::l) rest=(eTy t).cells++fl l rest:=by simp[fl,zQ]
theorem zFJ (t:Tp):(eTy t).cells.length=4:=rfl
theorem zM9 (l:List Tp) (rest:List AV):(fl l rest).length=l.length*4+rest.length:=by
 induction l with
 | nil=>simp[fl,zQ]
 | cons t l ih=>rw[zCS,List.length_append,ih,zFJ,List.length_cons];omega
theorem zY8 (rest:List AV):∀(l:List Tp) (k:Nat) (h:k<l.length),((fl l rest).drop (k*4)).take 4=(eTy l[k]).cells
 | [],k,h=>by simp at h
 | t::l,0,_=>by rw[zCS,Nat.zero_mul,List.drop_zero,List.take_append_of_le_length (by rw[zFJ];omega)];exact List.take_of_length_le (by rw[zFJ];omega)
 | t::l,k+1,h=>by
  rw[zCS,show (k+1)*4=(eTy t).cells.length+k*4 by rw[zFJ];omega,List.drop_length_add_append];exact zY8 rest l k (by simpa using h)
theorem zR3 (rest:List AV) (x:Tp):∀(l:List Tp) (k:Nat),k<l.length->setAt (fl l rest) (k*4) (eTy x).cells=fl (l.set k x) rest
 | [],k,h=>by simp at h
 | t::l,0,_=>by
  rw[List.set_cons_zero,zCS,zCS];unfold setAt;rw[Nat.zero_mul,List.take_zero,List.nil_append,Nat.zero_add,show (eTy x).cells.length=(eTy t).cells.length from rfl,List.drop_left]
 | t::l,k+1,h=>by
  have ih:=zR3 rest x l k (by simpa using h);rw[List.set_cons_succ,zCS,zCS,<-ih];unfold setAt;rw[show (k+1)*4=(eTy t).cells.length+k*4 by rw[zFJ];omega,List.take_length_add_append,List.append_assoc,Nat.add_assoc,List.drop_length_add_append]
def sw (l:List Tp) (k:Nat):List Tp:=(List.range l.length).map fun i=>if i<k∨l.length-1-i<k then l.getD (l.length-1-i) .no else l.getD i .no
theorem zGF (l:List Tp) (k:Nat):(sw l k).length=l.length:=by simp[sw]
theorem zS0 {l:List Tp} {k i:Nat} (h:i<(sw l k).length):(sw l k)[i]=if i<k∨l.length-1-i<k then l.getD (l.length-1-i) .no else l.getD i .no:=by simp[sw]
theorem z6Q (l:List Tp):sw l 0=l:=by
 refine List.ext_getElem (zGF l 0) fun i h1 h2=>?_;rw[zS0,if_neg (by omega)];simp[h2]
theorem z2Z {l:List Tp} {k:Nat} (h:l.length<=2*k+1):sw l k=l.reverse:=by
 refine List.ext_getElem (by rw[zGF];simp) fun i h1 h2=>?_;rw[zGF] at h1;rw[zS0,List.getElem_reverse];have h3:l.length-1-i<l.length:=by omega
 split
 ·simp[h3]
 ·have e:l.getD i .no=l.getD (l.length-1-i) .no:=congrArg (fun j=>l.getD j .no) (show i=l.length-1-i by omega);rw[e];simp[h3]
theorem z1Z {l:List Tp} {k:Nat} (h:2*k+1<l.length) (h1:k<(sw l k).length) (h2:l.length-1-k<(sw l k).length) :
  ((sw l k).set k (sw l k)[l.length-1-k]).set (l.length-1-k) (sw l k)[k]=sw l (k+1):=by
 refine List.ext_getElem (by simp[zGF]) fun i h3 h4=>?_;simp only[List.length_set,zGF] at h3;simp only[List.getElem_set,zS0];by_cases e1:l.length-1-k=i
 ·rw[if_pos e1,if_neg (by omega),if_pos (by omega)]
  congr 1;omega
 ·rw[if_neg e1];by_cases e2:k=i
  ·rw[if_pos e2,if_neg (by omega),if_pos (by omega)]
   congr 1;omega
  ·rw[if_neg e2];by_cases e3:i<k∨l.length-1-i<k
   ·rw[if_pos e3,if_pos (by omega)]
   ·rw[if_neg e3,if_neg (by omega)]
theorem zSL (b cap:Nat) (l:List Tp) (rest:List AV) (hl:l.length<1000000000) :
  CallsG Tryz.prog (fnv xP) [(b,.cells (fl l rest))] [.lit (.slice (some ⟨b,0,none⟩) l.length cap)] [] fun r o h=>h=[(b,.cells (fl l.reverse rest))]:=by
 refine zFE ttok mixed Tryz.func156 rfl (by rfl) (by rfl) (Nat.le_of_ble_eq_true rfl) (Nat.le_of_ble_eq_true rfl) (by kernel_rfl) ?_;have e0:IntKind.i64.wrap ((l.length:Nat)-1:Int)=(l.length:Int)-1:=zN8 (by omega) (by omega);refine⟨{k:Nat // 2*k<=l.length},fun k=>{vs:=[(0,.v (.lit (.slice (some ⟨b,0,none⟩) l.length cap))),(2,.v (.lit (.int .i64 (k.1:Nat)))),(3,.v (.lit (.int .i64 ((l.length:Int)-1-(k.1:Nat)))))],ow:=[],hp:=[(b,.cells (fl (sw l k.1) rest))]},
  fun k=>l.length-k.1,⟨0,Nat.zero_le _⟩,⟨⟨rfl,rfl,?_,trivial⟩,trivial,?_⟩,?_⟩
 ·exact congrArg (fun n=>SV.v (AV.lit (Value.int .i64 n))) (e0.trans (by simp))
 ·show [(b,HO.cells (fl l rest))]=[(b,HO.cells (fl (sw l 0) rest))];rw[z6Q]
 rintro⟨k,hk⟩;have hsl:=zGF l k;refine⟨fun h=>?_,fun h=>?_⟩
 ·have h:2*k+1<l.length:=by
   have:=of_decide_eq_true h;simp only at this;omega
  have h1:k<(sw l k).length:=by omega
  have h2:l.length-1-k<(sw l k).length:=by omega
  have ej:((l.length:Int)-1-(k:Nat)).toNat=l.length-1-k:=by omega
  have hfl:=zM9 (sw l k) rest;have a1:=zY8 rest (sw l k) (l.length-1-k) h2;have a2:=zY8 rest (sw l k) k h1;have b1:=zR3 rest (sw l k)[l.length-1-k] (sw l k) k h1;have b2:=zR3 rest (sw l k)[k] ((sw l k).set k (sw l k)[l.length-1-k]) (l.length-1-k) (by simpa using h2);rw[z1Z h h1 h2] at b2;refine⟨by show (0:Int)<=(l.length:Int)-1-(k:Nat);omega,by show (l.length:Int)-1-(k:Nat)<_;omega,?_⟩;have ek:(Int.toNat ((k:Nat):Int))=k:=rfl;refine⟨0,_,rfl,by rw[ej,hfl];omega,?_⟩;rw[Nat.zero_add,ej,a1];refine⟨by omega,by show ((k:Nat):Int)<_;omega,?_⟩;refine⟨0,_,rfl,by show 0+k*4+4<=(fl (sw l k) rest).length;rw[hfl];omega,?_⟩;rw[Nat.zero_add,ek,a2];refine⟨by omega,by show ((k:Nat):Int)<_;omega,?_⟩;refine⟨rfl,0,_,rfl,by show 0+k*4+4<=(fl (sw l k) rest).length;rw[hfl];omega,?_⟩;have b1':setAt (fl (sw l k) rest) (k*4) (AV.agg (eTy (sw l k)[l.length-1-k]).cells).cells=fl ((sw l k).set k (sw l k)[l.length-1-k]) rest:=b1;have b2':setAt (fl ((sw l k).set k (sw l k)[l.length-1-k]) rest) ((l.length-1-k)*4) (AV.agg (eTy (sw l k)[k]).cells).cells=fl (sw l (k+1)) rest:=b2;rw[Nat.zero_add,ek,b1'];refine⟨by show (0:Int)<=(l.length:Int)-1-(k:Nat);omega,by show (l.length:Int)-1-(k:Nat)<_;omega,?_⟩;refine⟨rfl,0,_,rfl,by
   show 0+Int.toNat ((l.length:Int)-1-(k:Nat))*4+4<=(fl ((sw l k).set k (sw l k)[l.length-1-k]) rest).length;rw[ej,zM9,List.length_set];omega,?_⟩
  rw[Nat.zero_add,ej,b2'];refine⟨⟨k+1,by omega⟩,(show l.length-(k+1)<l.length-k by omega),⟨rfl,?_,?_,trivial⟩,trivial,rfl⟩
  ·exact congrArg (fun n=>SV.v (AV.lit (Value.int .i64 n))) (wrap_succ (k:=k) (by omega))
  ·refine congrArg (fun n=>SV.v (AV.lit (Value.int .i64 n))) ?_;show IntKind.i64.wrap ((l.length:Int)-1-(k:Nat)-1)=(l.length:Int)-1-((k+1:Nat):Int);rw[zN8 (by omega) (by omega)];omega
 ·have h:l.length<=2*k+1:=by
   have:=of_decide_eq_false h;simp only at this;omega
  show [(b,HO.cells (fl (sw l k) rest))]=_;rw[z2Z h]
theorem reverse_nil:zB Tryz.prog xP [.lit (.slice none 0 0)] (.tup []):=by
 refine zD ttok mixed Tryz.func156 rfl (by rfl) (Nat.le_of_ble_eq_true rfl) (by kernel_rfl) ?_;refine⟨Unit,fun _=>{vs:=[(2,.v (.lit (.int .i64 0))),(3,.v (.lit (.int .i64 (-1))))],ow:=[]},fun _=>0,(),⟨⟨rfl,rfl,trivial⟩,trivial,rfl⟩,?_⟩;rintro⟨⟩;refine⟨fun h=>(by cases h),fun _=>?_⟩;exact rfl
def spHd:Tp->Tp
 | .app x _=>spHd x
 | t=>t
def spAr:Tp->List Tp
 | .app x b=>b::spAr x
 | _=>[]
structure z6R (t:Tp) where
 cur:Tp
 col:List Tp
 blk:Option (Nat×Nat×List AV)
 hd:spHd cur=spHd t
 ar:col++spAr cur=spAr t
 ok:match blk with
  | none=>col=[]
  | some (_,cap,rest)=>col≠[]/\col.length<=cap/\rest.length=(cap-col.length)*4
theorem z3F (l:List Tp) (x:Tp) (rest rest':List AV):(fl l rest).take (l.length*4)++([eTy x].flatMap AV.cells++rest')=fl (l++[x]) rest':=by
 have h:((zQ l).flatMap AV.cells).length=l.length*4:=by
  have:=zM9 l [];simpa[fl] using this
 unfold fl;rw[List.take_append_of_le_length (by rw[h];omega),<-h,List.take_length,<-List.append_assoc]
 congr 1
 simp[zQ]
theorem zPB (t : Tp) (hs : (spAr t).length < 1000000) : zB Tryz.prog zK3 [eTy t] (.tup [eTy (spHd t), .sl (zQ (spAr t).reverse)]) := by
  refine z1E (esz := 4) (zIY _) (fun x hx c hc => ?_) ?_
  · obtain ⟨y, _, rfl⟩ := List.mem_map.1 hx
    simp [eTy, AV.cells] at hc;rcases hc with rfl | rfl | rfl | rfl <;> rfl
  refine zFE ttok mixed Tryz.func149 rfl (by rfl) (by rfl) (Nat.le_of_ble_eq_true rfl) (Nat.le_of_ble_eq_true rfl) (by kernel_rfl) ?_
  refine ⟨z6R t, fun s => { vs := [(1, .box 0 (eTy s.cur)), (2, .box 0 (eTy .no)), (4, .v (.lit (match s.blk with
      | none => .slice none 0 0
      | some (b, cap, _) => .slice (some ⟨b, 0, none⟩) s.col.length cap)))], ow := [], hp := (match s.blk with
      | none => []
      | some (b, _, rest) => [(b, .cells (fl s.col rest))]) }, fun s => s.cur.sz, ⟨t, [], none, rfl, rfl, rfl⟩, ⟨⟨rfl, rfl, .inl rfl, trivial⟩, trivial, rfl⟩, ?_⟩
  rintro ⟨cur, col, blk, hd, ar, ok⟩;have hlen : col.length + (spAr cur).length = (spAr t).length := by rw [<- ar, List.length_append]
  have hcl : (zQ col).length = col.length := by simp [zQ]
  cases blk with
  | none =>
    have ok : col = [] := ok;subst ok;refine ⟨fun h => ?_, fun h => ?_⟩
    · obtain ⟨x, b, rfl⟩ := Tp.is_app (t := cur) (by simpa using h)
      refine ⟨_, by decide, rfl, rfl, ?_⟩;refine .inl ⟨_, qN b, ?_⟩;refine ⟨rfl, by simp, by simp, zIY [b], rfl, rfl, fun b' cap' zs h1 h2 => ?_⟩;refine ⟨_, by decide, rfl, rfl, ?_⟩;refine ⟨⟨x, [b], some (b', cap', zs), hd, ar, by simp, h1, h2⟩, by simp only [Tp.sz]; have := zKS b; omega, ⟨rfl, rfl, rfl, trivial⟩, trivial, ?_⟩;show [(b', HO.cells ([eTy b].flatMap AV.cells ++ zs))] = [(b', HO.cells (fl [b] zs))]
      rfl
    · have hna : ¬ cur.form = 4 := by simpa using h
      have e1 : spHd cur = cur := by cases cur <;> first | rfl | exact absurd rfl hna
      have e2 : spAr cur = [] := by cases cur <;> first | rfl | exact absurd rfl hna
      rw [e1] at hd;rw [e2, List.append_nil] at ar;refine .inl ⟨_, reverse_nil, ?_⟩;refine .inl ⟨_, qN cur, ?_⟩;refine ⟨rfl, .inl ⟨?_, ?_, rfl⟩⟩
      · rw [<- ar]; rfl
      · rw [<- hd]; rfl
  | some q =>
    obtain ⟨b0, cap, rest⟩ := q;obtain ⟨ok0, ok1, ok2⟩ := ok;refine ⟨fun h => ?_, fun h => ?_⟩
    · obtain ⟨x, b, rfl⟩ := Tp.is_app (t := cur) (by simpa using h)
      refine ⟨_, by decide, rfl, rfl, ?_⟩;refine .inl ⟨_, qN b, ?_⟩;refine ⟨rfl, by simp, by simp; omega, zIY [b], 0, _, rfl, ok1, ?_, fun b' cap' zs h1 h2 => ?_⟩
      · show (fl col rest).length = cap * 4
        rw [zM9, ok2, <- Nat.add_mul]; congr 1; omega
      refine ⟨_, by decide, rfl, rfl, ?_⟩;refine ⟨⟨x, col ++ [b], some (b', cap', zs), hd, by rw [List.append_assoc]; exact ar, by simp, by simpa using h1, by simpa using h2⟩, by simp only [Tp.sz]; have := zKS b; omega, ⟨rfl, rfl, ?_, trivial⟩, trivial, ?_⟩
      · show SV.v (AV.lit (.slice (some ⟨b', 0, none⟩) (col.length + 1) cap')) = SV.v (AV.lit (.slice (some ⟨b', 0, none⟩) (col ++ [b]).length cap'))
        rw [List.length_append]; rfl
      · show [(b', HO.cells ((fl col rest).take (col.length * 4) ++ ([eTy b].flatMap AV.cells ++ zs)))] = [(b', HO.cells (fl (col ++ [b]) zs))]
        rw [z3F]
    · have hna : ¬ cur.form = 4 := by simpa using h
      have e1 : spHd cur = cur := by cases cur <;> first | rfl | exact absurd rfl hna
      have e2 : spAr cur = [] := by cases cur <;> first | rfl | exact absurd rfl hna
      rw [e1] at hd;rw [e2, List.append_nil] at ar;refine .inr ⟨rfl, [0], _, [], _, rfl, by simp, rfl, zSL b0 cap col rest (by omega), ?_⟩;rintro _ _ _ rfl;refine .inl ⟨_, qN cur, ?_⟩;refine ⟨rfl, .inr ⟨b0, cap, rest, ?_, ?_, ?_⟩⟩
      · simp [zQ, <- ar]; exact ok1
      · have hl : (zQ col.reverse).length = col.length := by simp [zQ]
        rw [<- hd, <- ar, hl]; rfl
      · rw [<- ar]; rfl
theorem split_ok (t:Tp):zB Tryz.prog 125 [eTy t] (.tup [eTy (partsOf t).1,eTy (partsOf t).2.1,.sb (partsOf t).2.2]):=by
 refine zA ttok mixed Tryz.func125 rfl (by rfl) (Nat.le_of_ble_eq_true rfl) (by kernel_rfl) ?_;refine .inl ⟨_,zY5 t,?_⟩;refine .inl ⟨_,qN _,?_⟩;refine .inl ⟨_,qN _,?_⟩;refine⟨by kernel_rfl,?_⟩;exact rfl
abbrev OfS (w:Wd) (c:Cr) (t:Tp):Prop:=zB Tryz.prog 46 [eW w,eC c] (eTy t)
theorem zY2 {c p:Cr} {r:List Cr} (h:c.kids=p::r):(c.e3 0)[0]? = some (eC p):=by rw[z0N,h];rfl
abbrev zKZ:ByteArray:=⟨#[73,110,116]⟩
abbrev zAW:ByteArray:=⟨#[66,111,111,108]⟩
theorem funT_ok (to:Tp) (l:List Tp) (hl:l.length<4294967296):zB Tryz.prog zPK [eTy to,.sl (zQ l)] (eTy (funT to l)):=by
 refine zD ttok mixed Tryz.func19 rfl (by rfl) (Nat.le_of_ble_eq_true rfl) (by kernel_rfl) ?_;refine .inl ⟨_,qN to,?_⟩;have hlen:(zQ l).length=l.length:=by simp[zQ]
 refine⟨{k:Nat // k<=l.length},fun k=>{vs:=[(1,.v (.sl (zQ l))),(4,.box 0 (eTy .no)),(5,.box 0 (eTy (funT to (l.drop (l.length-k.1))))),(10,.v (.lit (.int .i64 ((zQ l).length:Nat)))),(11,.v (.lit (.int .i64 (k.1:Nat))))]},
  fun k=>l.length-k.1,⟨0,Nat.zero_le _⟩,⟨⟨rfl,rfl,?_,rfl,rfl,trivial⟩,trivial,rfl⟩,?_⟩
 ·show SV.box 0 (eTy to)=SV.box 0 (eTy (funT to (l.drop (l.length-0))));rw[Nat.sub_zero,List.drop_length];rfl
 rintro⟨k,hk⟩;refine⟨fun h=>?_,fun h=>?_⟩
 ·have h:k<l.length:=by simp[hlen] at h;omega
  have e1:IntKind.i64.wrap (((zQ l).length:Nat)-1:Int)=((l.length-1:Nat):Int):=by rw[hlen,show ((l.length:Nat)-1:Int)=((l.length-1:Nat):Int) by omega];exact yB (by omega)
  have e2:IntKind.i64.wrap (((l.length-1:Nat):Int)-((k:Nat):Int))=((l.length-1-k:Nat):Int):=by rw[show (((l.length-1:Nat):Int)-((k:Nat):Int))=((l.length-1-k:Nat):Int) by omega];exact yB (by omega)
  have hlt:l.length-1-k<l.length:=by omega
  refine .inl ⟨_,con_mk _,?_⟩;refine⟨eTy l[l.length-1-k],?_,?_,rfl,?_⟩
  ·show (0:Int)<=IntKind.i64.wrap (IntKind.i64.wrap (((zQ l).length:Nat)-1:Int)-((k:Nat):Int));rw[e1,e2];omega
  ·show (zQ l)[Int.toNat (IntKind.i64.wrap (IntKind.i64.wrap (((zQ l).length:Nat)-1:Int)-((k:Nat):Int)))]? = _;rw[e1,e2];exact zNL hlt
  refine .inl ⟨_,qN _,?_⟩;refine .inl ⟨_,zFN (.con arrow) _,?_⟩;refine .inl ⟨_,zFN (.app (.con arrow) _) _,?_⟩;refine⟨⟨k+1,h⟩,(show l.length-(k+1)<l.length-k by omega),⟨rfl,rfl,?_,rfl,?_,trivial⟩,trivial,rfl⟩
  ·show SV.box 0 (eTy (.app (.app (.con arrow) l[l.length-1-k]) (funT to (l.drop (l.length-k)))))=SV.box 0 (eTy (funT to (l.drop (l.length-(k+1)))));rw[show l.length-(k+1)=l.length-1-k by omega,List.drop_eq_getElem_cons hlt,show l.length-1-k+1=l.length-k by omega];rfl
  ·exact congrArg (fun l=>SV.v (AV.lit (Value.int .i64 l))) (wrap_succ (k:=k) (by omega))
 ·have h:k=l.length:=by simp[hlen] at h;omega
  subst h;show eTy (funT to (l.drop (l.length-l.length)))=_;rw[Nat.sub_self,List.drop_zero]
theorem kLam_ok {w:Wd} {c p:Cr} {t:Tp} {K:Nat} (hk:c.kids=[p]) (hf:FitX K c.t w.ps) (hl:w.env.length<100000) (h1:OfS (w.more [(c.s,w.mean c.t)]) p t):zB Tryz.prog 103 [eW w,eC c] (eTy (funT t [w.mean c.t])):=by
 refine zA ttok mixed Tryz.func103 rfl (by rfl) (Nat.le_of_ble_eq_true rfl) (by kernel_rfl) ?_;refine .inl ⟨_,zDL w c.t hf,?_⟩;refine .inl ⟨_,zDO w [(c.s,w.mean c.t)] (by simp;omega),?_⟩;refine⟨eC p,by omega,zY2 hk,rfl,?_⟩;refine .inl ⟨_,h1,?_⟩;refine .inl ⟨_,funT_ok t [w.mean c.t] (by simp),?_⟩;refine⟨by kernel_rfl,?_⟩;exact rfl
end Go.Proofs.YtebmimnglcdogaaGreatDoor.Ck
