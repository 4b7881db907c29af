/- forms: how core of each form is looked at. No condition. -/
import Derived.Test.YtdmbahepaglcbaaGreatDoorO
import Derived.Test.YtdmbahepaglcbaaGreatDoorFpN
import Derived.Test.YtdmbahepaglcbaaGreatDoorB
set_option linter.unusedSimpArgs false
set_option linter.unusedVariables false
namespace Go.Proofs.YtdmbahepaglcbaaGreatDoor
open Go Fp
set_option maxRecDepth 10000
set_option maxHeartbeats 8000000
set_option linter.unusedVariables false
def fE (k:Int) (n:Int) (f:Nat):AV×AV:=(.lit (.int .i64 k),.agg [.lit (.int .i64 n),.lit (fnv f)])
def frmL:List (AV×AV):=[fE 1 0 116,fE 2 0 117,fE 3 0 118,fE 4 2 119,fE 5 1 120,fE 6 1 121,fE 7 1 122,fE 8 1 123,fE 9 1 124,fE 10 2 125,fE 11 0 126]
theorem zXF:∀p∈frmL,zAM (.lit (.int .i64 0)) p.1:=by
 intro p hp;simp only[frmL,fE,List.mem_cons,List.not_mem_nil,or_false] at hp;rcases hp with rfl|rfl|rfl|rfl|rfl|rfl|rfl|rfl|rfl|rfl|rfl<;>rfl
theorem zAK (n:Nat):∀p∈frmL.take n,zAM (.lit (.int .i64 0)) p.1:=fun p hp=>zXF p (List.mem_of_mem_take hp)
theorem zK9:zF Tryz.prog 77 [] (.mpv frmL):=by
 refine CallsG.pure (post:=fun r o h=>o=0/\∃b,r = .lit (.map (some b))/\h=[(b,HO.mp frmL)]) ?_ (by
  rintro r o h ⟨rfl,b,rfl,rfl⟩;exact⟨.mp b frmL frmL (by simp) rfl (fun j c c' h1 h2=>by rw[h1] at h2;injection h2 with h2;subst h2;exact .refl _) (fun j c c' h1 h2=>by rw[h1] at h2;injection h2 with h2;subst h2;exact .refl _),rfl⟩)
 refine yF (first:=[]) (cap:=[]) ttok mixed Tryz.func77 rfl (by rfl) rfl (Nat.le_of_ble_eq_true rfl) (by kernel_rfl) ?_;refine Wsem.seq ttok mixed ?_;refine Wsem.seqS (Wsem.regionIns ttok (by kernel_rfl) ?_);intro b;refine⟨0,frmL.take 0,none,rfl,zAK 0,rfl,.no (by intro p hp;simp at hp),?_⟩;refine⟨0,frmL.take 1,none,rfl,zAK 1,rfl,.no (by intro p hp;simp[frmL,fE] at hp;rcases hp with rfl<;>simp),?_⟩;refine⟨0,frmL.take 2,none,rfl,zAK 2,rfl,.no (by intro p hp;simp[frmL,fE] at hp;rcases hp with rfl|rfl<;>simp),?_⟩;refine⟨0,frmL.take 3,none,rfl,zAK 3,rfl,.no (by intro p hp;simp[frmL,fE] at hp;rcases hp with rfl|rfl|rfl<;>simp),?_⟩;refine⟨0,frmL.take 4,none,rfl,zAK 4,rfl,.no (by intro p hp;simp[frmL,fE] at hp;rcases hp with rfl|rfl|rfl|rfl<;>simp),?_⟩;refine⟨0,frmL.take 5,none,rfl,zAK 5,rfl,.no (by intro p hp;simp[frmL,fE] at hp;rcases hp with rfl|rfl|rfl|rfl|rfl<;>simp),?_⟩;refine⟨0,frmL.take 6,none,rfl,zAK 6,rfl,.no (by intro p hp;simp[frmL,fE] at hp;rcases hp with rfl|rfl|rfl|rfl|rfl|rfl<;>simp),?_⟩;refine⟨0,frmL.take 7,none,rfl,zAK 7,rfl,.no (by intro p hp;simp[frmL,fE] at hp;rcases hp with rfl|rfl|rfl|rfl|rfl|rfl|rfl<;>simp),?_⟩;refine⟨0,frmL.take 8,none,rfl,zAK 8,rfl,.no (by intro p hp;simp[frmL,fE] at hp;rcases hp with rfl|rfl|rfl|rfl|rfl|rfl|rfl|rfl<;>simp),?_⟩;refine⟨0,frmL.take 9,none,rfl,zAK 9,rfl,.no (by intro p hp;simp[frmL,fE] at hp;rcases hp with rfl|rfl|rfl|rfl|rfl|rfl|rfl|rfl|rfl<;>simp),?_⟩
 refine⟨0,frmL.take 10,none,rfl,zAK 10,rfl,.no (by intro p hp;simp[frmL,fE] at hp;rcases hp with rfl|rfl|rfl|rfl|rfl|rfl|rfl|rfl|rfl|rfl<;>simp),?_⟩;refine Wsem.of ttok mixed ?_;exact⟨rfl,b,rfl,rfl⟩
set_option maxRecDepth 100000
theorem z3T (N:Nat):∀(a b:Tp) (x y:List ByteArray),a.sz<=N->x.length+dp a<=4000000000->y.length+dp a<=4000000000->zF Tryz.prog zRS [eTy a,eTy b,.sl (eSs x),.sl (eSs y)] (.sb (smb a b x y)):=by
 induction N with
 | zero=>intro a b x y h;have:=zAF a;omega
 | succ N ih =>
  intro a b x y hs hx hy;have hxl:(eSs x).length=x.length:=by simp[eSs]
  have hyl:(eSs y).length=y.length:=by simp[eSs]
  by_cases hform:a.form=b.form
  ·cases a<;>cases b<;>try (simp[Tp.form] at hform;done)
   ·refine zD ttok mixed Tryz.func138 rfl (by rfl) (Nat.le_of_ble_eq_true rfl) (by kernel_rfl) ?_;refine⟨fun _=>?_,fun h=>(by cases h)⟩;refine⟨fun _=>?_,fun h=>(by cases h)⟩;refine⟨fun h=>(by cases h),fun _=>?_⟩;refine⟨fun h=>(by cases h),fun _=>?_⟩;refine⟨fun h=>(by cases h),fun _=>?_⟩;refine⟨fun h=>(by simp at h),fun _=>?_⟩;refine⟨{k:Nat // k<=0},fun k=>{vs:=[(97,.v (.lit (.int .i64 0))),(98,.v (.lit (.int .i64 0)))],ow:=[]},fun _=>0,⟨0,Nat.le_refl _⟩,⟨⟨rfl,rfl,trivial⟩,trivial,rfl⟩,?_⟩;rintro⟨k,hk⟩;refine⟨fun h=>(by cases h),fun _=>?_⟩;exact rfl
   ·rename_i n m;refine zD ttok mixed Tryz.func138 rfl (by rfl) (Nat.le_of_ble_eq_true rfl) (by kernel_rfl) ?_;refine⟨fun _=>?_,fun h=>(by cases h)⟩;refine⟨fun h=>?_,fun h=>?_⟩
    ·have hnm:n=m:=Classical.byContradiction fun e=>by
      have h':(!decide (n=m))=false:=h;rw[decide_eq_false e] at h';cases h'
     subst hnm;have es:smb (.mt n) (.mt n) x y=true:=by simp[smb]
     rw[es];refine⟨fun h=>(by cases h),fun _=>?_⟩;refine⟨fun h=>(by cases h),fun _=>?_⟩;refine⟨fun h=>(by cases h),fun _=>?_⟩;refine⟨fun h=>(by simp at h),fun _=>?_⟩;refine⟨{k:Nat // k<=0},fun k=>{vs:=[(97,.v (.lit (.int .i64 0))),(98,.v (.lit (.int .i64 0)))],ow:=[]},fun _=>0,⟨0,Nat.le_refl _⟩,⟨⟨rfl,rfl,trivial⟩,trivial,rfl⟩,?_⟩;rintro⟨k,hk⟩;refine⟨fun h=>(by cases h),fun _=>?_⟩;exact rfl
    ·have es:smb (.mt n) (.mt m) x y=false:=by
      have h':(!decide (n=m))=true:=h;simpa[smb] using h'
     rw[es];exact rfl
   ·rename_i s r;refine zD ttok mixed Tryz.func138 rfl (by rfl) (Nat.le_of_ble_eq_true rfl) (by kernel_rfl) ?_;refine⟨fun _=>?_,fun h=>(by cases h)⟩;refine⟨fun _=>?_,fun h=>(by cases h)⟩;refine⟨fun h=>(by cases h),fun _=>?_⟩;refine⟨fun h=>(by cases h),fun _=>?_⟩;refine⟨fun _=>?_,fun h=>(by cases h)⟩;refine .inl ⟨_,zSI (l:=x) (s:=s) (by omega),?_⟩;refine .inl ⟨_,zSI (l:=y) (s:=r) (by omega),?_⟩;refine⟨fun h1=>?_,fun h1=>?_⟩
    ·refine⟨fun h2=>?_,fun h2=>?_⟩
     ·have es:smb (.var s) (.var r) x y=decide (s=r):=by
       simp only[smb];rw[h1,h2];rfl
      rw[es];exact rfl
     ·have es:smb (.var s) (.var r) x y=true:=by
       simp only[smb];rw[h1,h2];rfl
      rw[es];exact rfl
    ·have es:smb (.var s) (.var r) x y=false:=by
      simp only[smb];rw[h1];rfl
     rw[es];exact rfl
   ·rename_i s r;refine zD ttok mixed Tryz.func138 rfl (by rfl) (Nat.le_of_ble_eq_true rfl) (by kernel_rfl) ?_;refine⟨fun _=>?_,fun h=>(by cases h)⟩;refine⟨fun _=>?_,fun h=>(by cases h)⟩;refine⟨fun h=>(by cases h),fun _=>?_⟩;refine⟨fun h=>(by cases h),fun _=>?_⟩;refine⟨fun h=>(by cases h),fun _=>?_⟩;refine⟨fun h=>?_,fun h=>?_⟩
    ·have es:smb (.con s) (.con r) x y=false:=by
      have h':(!decide (s=r))=true:=h;simpa[smb] using h'
     rw[es];exact rfl
    ·have es:smb (.con s) (.con r) x y=true:=by
      have h':(!decide (s=r))=false:=h;simpa[smb] using h'
     rw[es];refine⟨{k:Nat // k<=0},fun k=>{vs:=[(97,.v (.lit (.int .i64 0))),(98,.v (.lit (.int .i64 0)))],ow:=[]},fun _=>0,⟨0,Nat.le_refl _⟩,⟨⟨rfl,rfl,trivial⟩,trivial,rfl⟩,?_⟩;rintro⟨k,hk⟩;refine⟨fun h=>(by cases h),fun _=>?_⟩;exact rfl
   ·rename_i a1 a2 b1 b2;simp only[Tp.sz] at hs;simp only[dp] at hx hy;have i1:=ih a1 b1 x y (by omega) (by omega) (by omega);have i2:=ih a2 b2 x y (by omega) (by omega) (by omega);refine zD ttok mixed Tryz.func138 rfl (by rfl) (Nat.le_of_ble_eq_true rfl) (by kernel_rfl) ?_;refine⟨fun _=>?_,fun h=>(by cases h)⟩;refine⟨fun _=>?_,fun h=>(by cases h)⟩;refine⟨fun h=>(by cases h),fun _=>?_⟩;refine⟨fun h=>(by cases h),fun _=>?_⟩;refine⟨fun h=>(by cases h),fun _=>?_⟩;refine⟨fun h=>(by simp[Tp.nam] at h),fun _=>?_⟩;refine⟨{k:Nat // k=0∨(k=1/\smb a1 b1 x y=true)∨(k=2/\smb a1 b1 x y=true/\smb a2 b2 x y=true)},fun k=>{vs:=[(2,.v (.sl (eSs x))),(3,.v (.sl (eSs y))),(4,.box 0 (eTy (.app a1 a2))),(5,.box 0 (eTy (.app b1 b2))),(97,.v (.lit (.int .i64 2))),(98,.v (.lit (.int .i64 (k.1:Nat))))],ow:=[]},
     fun k=>2-k.1,⟨0,.inl rfl⟩,⟨⟨rfl,rfl,rfl,rfl,rfl,rfl,trivial⟩,trivial,rfl⟩,?_⟩
    rintro⟨k,rfl|⟨rfl,h1⟩|⟨rfl,h1,h2⟩⟩
    ·refine⟨fun _=>?_,fun h=>(by cases h)⟩;refine⟨eTy a1,Int.le_refl 0,rfl,rfl,?_⟩;refine⟨eTy b1,Int.le_refl 0,rfl,rfl,?_⟩;refine .inl ⟨_,i1,?_⟩;refine⟨fun h=>?_,fun h=>?_⟩
     ·have es:smb (.app a1 a2) (.app b1 b2) x y=false:=by
       have h':smb a1 b1 x y=false:=by simpa using h
       simp[smb,h']
      rw[es];exact rfl
     ·have h':smb a1 b1 x y=true:=by simpa using h
      exact⟨⟨1,.inr (.inl ⟨rfl,h'⟩)⟩,(show 2-1<2-0 by omega),⟨rfl,rfl,rfl,rfl,rfl,rfl,trivial⟩,trivial,rfl⟩
    ·refine⟨fun _=>?_,fun h=>(by cases h)⟩;refine⟨eTy a2,Int.natCast_nonneg 1,rfl,rfl,?_⟩;refine⟨eTy b2,Int.natCast_nonneg 1,rfl,rfl,?_⟩;refine .inl ⟨_,i2,?_⟩;refine⟨fun h=>?_,fun h=>?_⟩
     ·have es:smb (.app a1 a2) (.app b1 b2) x y=false:=by
       have h':smb a2 b2 x y=false:=by simpa using h
       simp[smb,h']
      rw[es];exact rfl
     ·have h':smb a2 b2 x y=true:=by simpa using h
      exact⟨⟨2,.inr (.inr ⟨rfl,h1,h'⟩)⟩,(show 2-2<2-1 by omega),⟨rfl,rfl,rfl,rfl,rfl,rfl,trivial⟩,trivial,rfl⟩
    ·refine⟨fun h=>(by cases h),fun _=>?_⟩;have es:smb (.app a1 a2) (.app b1 b2) x y=true:=by simp[smb,h1,h2]
     rw[es];exact rfl
   ·rename_i s a r b;simp only[Tp.sz] at hs;simp only[dp] at hx hy;have i1:=ih a b (x++[s]) (y++[r]) (by omega) (by simp;omega) (by simp;omega);rw[<-zDA,<-zDA] at i1;have hfx:=zPK (eSs x);have hfy:=zPK (eSs y);rw[<-hfx,<-hfy] at i1;refine zD ttok mixed Tryz.func138 rfl (by rfl) (Nat.le_of_ble_eq_true rfl) (by kernel_rfl) ?_;refine⟨fun _=>?_,fun h=>(by cases h)⟩;refine⟨fun _=>?_,fun h=>(by cases h)⟩;refine⟨fun h=>(by cases h),fun _=>?_⟩;refine⟨fun _=>?_,fun h=>(by cases h)⟩;refine⟨_,by decide,rfl,rfl,?_⟩;refine⟨_,by decide,rfl,rfl,?_⟩;refine⟨by decide,by omega,Int.le_refl _,rfl,.inl rfl,?_⟩;refine⟨by rw[hfx,hxl];simp;omega,by rw[hfx];exact yP _,yP [_],?_⟩;refine⟨by decide,by omega,Int.le_refl _,rfl,.inl rfl,?_⟩;refine⟨by rw[hfy,hyl];simp;omega,by rw[hfy];exact yP _,yP [_],?_⟩;refine .inl ⟨_,i1,?_⟩;exact rfl
  ·have es:smb a b x y=false:=by cases a<;>cases b<;>first|rfl|exact absurd rfl hform
   rw[es];refine zD ttok mixed Tryz.func138 rfl (by rfl) (Nat.le_of_ble_eq_true rfl) (by kernel_rfl) ?_;refine⟨fun h=>?_,fun _=>?_⟩
   ·have h':(!decide (a.form=b.form))=false:=h;rw[decide_eq_false hform] at h';cases h'
   ·exact rfl
theorem xG (a b:Tp) (h:dp a<1000000000):zF Tryz.prog zQY [eTy a,eTy b] (.sb (smb a b [] [])):=by
 refine zD ttok mixed Tryz.func107 rfl (by rfl) (Nat.le_of_ble_eq_true rfl) (by kernel_rfl) ?_;refine .inl ⟨_,z3T a.sz a b [] [] (Nat.le_refl _) (by simp;omega) (by simp;omega),?_⟩;exact rfl
theorem yN {b:Bool} (h:b=true):zF Tryz.prog 78 [.sb b] (.tup []):=by subst h;exact z5E
theorem zAD {b:Bool} (h:b=false):yS Tryz.prog 78 [.sb b] wJ:=by subst h;exact z1Y
theorem zb4 (f:Fd) (s:ByteArray) (ts:List AV):zF Tryz.prog 153 [eFd f,.ptr (.lit (.string s)::ts)] (.sb (decide (f.nm=s))):=by
 refine zG ttok mixed Tryz.func153 rfl (by rfl) (Nat.le_of_ble_eq_true rfl) (by kernel_rfl) ?_;exact rfl
theorem zbD {l:List Fd} {k:Nat} (h:k<l.length):(zEW l)[k]? = some (eFd l[k]):=by simp[zEW,h]
theorem zeB (l:List Fd):(zEW l).length=l.length:=by simp[zEW]
theorem zYN (fs:List Fd) (s:ByteArray) (ts:List AV) (hl:fs.length<10000000):zF Tryz.prog 152 [.sl (zEW fs),.fn (.func 153) [] [.ptr (.lit (.string s)::ts)]] (.lit (.int .i64 (ixI (fs.map Fd.nm) s))):=by
 refine zG ttok mixed Tryz.func152 rfl (by rfl) (Nat.le_of_ble_eq_true rfl) (by kernel_rfl) ?_;refine⟨{k:Nat // k<=fs.length/\∀j,j<k->(fs.map Fd.nm)[j]?≠some s},fun k=>{vs:=[(0,.v (.sl (zEW fs))),(1,.v (.fn (.func 153) [] [.ptr (.lit (.string s)::ts)])),(7,sv (fs.length:Nat)),(8,sv (k.1:Nat))]},
  fun k=>fs.length-k.1,⟨0,Nat.zero_le _,fun j h=>by omega⟩,⟨⟨rfl,rfl,svc (by rw[zeB]),rfl,trivial⟩,trivial,rfl⟩,?_⟩
 rintro⟨k,hk,hinv⟩;refine⟨fun h=>?_,fun h=>?_⟩
 ·have h:k<fs.length:=by have h:=of_decide_eq_true h;simp only at h;omega
  have hm:(fs.map Fd.nm)[k]? = some fs[k].nm:=by simp[h]
  refine⟨_,by omega,zbD h,rfl,?_⟩;refine .inl ⟨_,zb4 fs[k] s ts,?_⟩;refine⟨fun h2=>?_,fun h2=>?_⟩
  ·have h2:fs[k].nm=s:=of_decide_eq_true h2;have:ixI (fs.map Fd.nm) s=(k:Nat):=zML (l:=fs.map Fd.nm) (by simpa using h) (by simpa using h2) hinv;rw[this];exact rfl
  ·have h2:¬fs[k].nm=s:=of_decide_eq_false h2;refine⟨⟨k+1,h,fun j hj=>?_⟩,by simp;omega,⟨rfl,rfl,rfl,svc (wrap_succ (k:=k) (by omega)),trivial⟩,trivial,rfl⟩;rcases Nat.lt_or_ge j k with hlt|hge
   ·exact hinv j hlt
   ·have:j=k:=by omega
    subst this;rw[hm];intro e;exact h2 (Option.some.inj e)
 ·have h:k=fs.length:=by have h:=of_decide_eq_false h;simp only at h;omega
  have:ixI (fs.map Fd.nm) s = -1:=zGD (zAS fun j hj=>hinv j (by rw[List.length_map] at hj;omega));rw[this];exact rfl
theorem zS7 (w:Wd) (s:ByteArray) {i:Nat} (hl:w.fs.length<10000000) (hi:i<w.fs.length) (hix:ixI (w.fs.map Fd.nm) s=(i:Nat)):zF Tryz.prog 141 [eW w,.lit (.string s)] (eFd w.fs[i]):=by
 refine zG ttok mixed Tryz.func141 rfl (by rfl) (Nat.le_of_ble_eq_true rfl) (by kernel_rfl) ?_;refine .inl ?_;refine .inl ⟨_,zYN w.fs s [] hl,?_⟩;rw[hix];refine .inl ⟨_,yN (decide_eq_true (by omega)),?_⟩;refine⟨_,by omega,zbD hi,rfl,?_⟩;exact rfl
theorem zPS (w:Wd) (s:ByteArray) (hl:w.fs.length<10000000) (hn:s∉w.fs.map Fd.nm):yS Tryz.prog 141 [eW w,.lit (.string s)] wJ:=by
 refine zJ ttok mixed Tryz.func141 rfl (by rfl) (Nat.le_of_ble_eq_true rfl) (by kernel_rfl) ?_;refine WsemQ.seq ttok mixed ?_;refine WsemQ.seq ttok mixed ?_;refine .inl ?_;refine .inl ⟨_,zYN w.fs s [] hl,?_⟩;rw[zGD hn];refine WsemQ.seqS (WsemQ.region ttok 2 ?_);exact zAD rfl
theorem zYJ (w:Wd) (c:Cr) {i:Nat} (hl:w.fs.length<10000000) (hi:i<w.fs.length) (hix:ixI (w.fs.map Fd.nm) c.s=(i:Nat)):zF Tryz.prog 117 [eW w,eC c] (eTy w.fs[i].t):=by
 refine zG ttok mixed Tryz.func117 rfl (by rfl) (Nat.le_of_ble_eq_true rfl) (by kernel_rfl) ?_;refine .inl ⟨_,zS7 w c.s hl hi hix,?_⟩;exact rfl
theorem z7F (w:Wd) (c:Cr) (hl:w.fs.length<10000000) (hn:c.s∉w.fs.map Fd.nm):yS Tryz.prog 117 [eW w,eC c] wJ:=by
 refine zJ ttok mixed Tryz.func117 rfl (by rfl) (Nat.le_of_ble_eq_true rfl) (by kernel_rfl) ?_;refine WsemQ.seq ttok mixed ?_;refine WsemQ.seqS (WsemQ.region ttok 3 ?_);exact zPS w c.s hl hn
def zBI (s:ByteArray) (ps:Env'):Env':=ps.filter fun p=>decide (p.1≠s)
def Wd.all (w:Wd) (s own:ByteArray):Wd:={w with ps:=zBI s w.ps++[(s,.var own)],deep:=w.deep+1}
theorem zUX (ps:Env'):(eN ps).length=ps.length:=by simp[eN,eSs]
theorem z7W (ps:Env'):(eB ps).length=ps.length:=by simp[eB,yA]
theorem z6C (a b:Env'):eN (a++b)=eN a++eN b:=by simp[eN,eSs]
theorem z2X (a b:Env'):eB (a++b)=eB a++eB b:=by simp[eB,yA]
theorem zdQ {ps:Env'} {k:Nat} (h:k<ps.length):(eN ps)[k]? = some (.lit (.string ps[k].1)):=by simp[eN,eSs,h]
theorem zeN {ps:Env'} {k:Nat} (h:k<ps.length):(eB ps)[k]? = some (eTy ps[k].2):=by simp[eB,yA,h]
theorem zZA {s:ByteArray} {ps:Env'} {k:Nat} (h:k<ps.length):zBI s (ps.take (k+1))=zBI s (ps.take k)++(if ps[k].1=s then [] else [ps[k]]):=by
 unfold zBI;rw[List.take_succ_eq_append_getElem h,List.filter_append];by_cases e:ps[k].1=s
 ·rw[if_pos e];simp[e]
 ·rw[if_neg e];simp[e]
theorem zYL (s:ByteArray) (ps:Env'):(zBI s ps).length<=ps.length:=List.length_filter_le _ _
theorem zER (l:List Tp):Uni 4 (yA l):=fun a ha=>by obtain⟨x,_,rfl⟩:=List.mem_map.1 ha;rfl
theorem z8D (w:Wd) (s own:ByteArray) (hl:w.ps.length<=100000) (hd:w.deep<1000000):zF Tryz.prog 143 [eW w,.lit (.string s),.lit (.string own)] (eW (w.all s own)):=by
 refine zG ttok mixed Tryz.func143 rfl (by rfl) (Nat.le_of_ble_eq_true rfl) (by kernel_rfl) ?_;refine⟨{k:Nat // k<=w.ps.length},fun k=>{vs:=[(1,.v (.lit (.string s))),(2,.v (.lit (.string own))),(3,.box 0 (eW w)),(6,.box 0 (.agg [.sl [],.sl [],.sl [],.sl [],.lit (.int .i64 0)])),(7,.v (.sl (eN (zBI s (w.ps.take k.1))))),(8,.v (.sl (eB (zBI s (w.ps.take k.1))))),(12,.v (.sl (eN w.ps))),(13,sv (w.ps.length:Nat)),(14,sv (k.1:Nat))],ow:=[(7,0,2),(8,0,5)]},
  fun k=>w.ps.length-k.1,⟨0,Nat.zero_le _⟩,?_,?_⟩
 ·exact⟨⟨rfl,rfl,rfl,rfl,rfl,rfl,rfl,svc (by rw[zUX]),rfl,trivial⟩,⟨trivial,trivial,trivial⟩,rfl⟩
 rintro⟨k,hk⟩;have hle:=zYL s (w.ps.take k);have hlt:(w.ps.take k).length<=w.ps.length:=by rw[List.length_take];omega
 refine⟨fun h=>?_,fun h=>?_⟩
 ·have h:k<w.ps.length:=by have h:=of_decide_eq_true h;simp only at h;omega
  have hup:=zZA (s:=s) h;refine⟨_,by omega,zdQ h,rfl,?_⟩;refine⟨fun h2=>?_,fun h2=>?_⟩
  ·have h2:¬w.ps[k].1=s:=by simpa using h2
   rw[if_neg h2] at hup;refine⟨by show (eN (zBI s (w.ps.take k))).length+1<=_;rw[zUX];omega,zZT _,jF rfl,?_⟩;refine⟨_,by omega,zeN h,rfl,?_⟩;refine⟨by show (eB (zBI s (w.ps.take k))).length+1<=_;rw[z7W];omega,zZ8 _,zER [_],?_⟩;refine⟨by kernel_rfl,?_⟩;refine⟨⟨k+1,h⟩,by simp;omega,⟨rfl,rfl,rfl,rfl,?_,?_,rfl,rfl,svc (wrap_succ (k:=k) (by omega)),trivial⟩,⟨rfl,rfl,trivial⟩,rfl⟩
   ·rw[hup,z6C];exact rfl
   ·rw[hup,z2X];exact rfl
  ·have h2:w.ps[k].1=s:=by simpa using h2
   rw[if_pos h2,List.append_nil] at hup;refine⟨⟨k+1,h⟩,by simp;omega,⟨rfl,rfl,rfl,rfl,?_,?_,rfl,rfl,svc (wrap_succ (k:=k) (by omega)),trivial⟩,⟨rfl,rfl,trivial⟩,rfl⟩
   ·rw[hup];exact rfl
   ·rw[hup];exact rfl
 ·have h:k=w.ps.length:=by have h:=of_decide_eq_false h;simp only at h;omega
  subst h;rw[List.take_length] at hle;refine⟨by show (eN (zBI s (w.ps.take w.ps.length))).length+1<=_;rw[zUX,List.take_length];omega,zZT _,jF rfl,?_⟩;refine .inl ⟨_,zGA own,?_⟩;refine⟨by show (eB (zBI s (w.ps.take w.ps.length))).length+1<=_;rw[z7W,List.take_length];omega,zZ8 _,zER [_],?_⟩;have hw:IntKind.i64.wrap ((w.deep:Nat)+1)=((w.deep+1:Nat):Int):=wrap_succ (k:=w.deep) (by omega);show AV.agg [.sl (zEW w.fs),.sl (xW w.env),.sl (eN (zBI s (w.ps.take w.ps.length))++[.lit (.string s)]),.sl (eB (zBI s (w.ps.take w.ps.length))++[eTy (.var own)]),.lit (.int .i64 (IntKind.i64.wrap ((w.deep:Nat)+1)))]=eW (w.all s own);rw[hw,List.take_length];unfold Wd.all eW;simp only[];rw[z6C,z2X];rfl
def fl (l:List Tp) (rest:List AV):List AV:=(yA l).flatMap AV.cells++rest
theorem zDY (t:Tp) (l:List Tp) (rest:List AV):fl (t::l) rest=(eTy t).cells++fl l rest:=by simp[fl,yA]
theorem zHE (t:Tp):(eTy t).cells.length=4:=rfl
theorem zP5 (l:List Tp) (rest:List AV):(fl l rest).length=l.length*4+rest.length:=by
 induction l with
 | nil=>simp[fl,yA]
 | cons t l ih=>rw[zDY,List.length_append,ih,zHE,List.length_cons];omega
theorem z1Q (rest:List AV):∀(l:List Tp) (k:Nat) (h:k<l.length),((fl l rest).drop (k*4)).take 4=(eTy l[k]).cells
 | [],k,h=>by simp at h
 | t::l,0,_=>by rw[zDY,Nat.zero_mul,List.drop_zero,List.take_append_of_le_length (by rw[zHE];omega)];exact List.take_of_length_le (by rw[zHE];omega)
 | t::l,k+1,h=>by
  rw[zDY,show (k+1)*4=(eTy t).cells.length+k*4 by rw[zHE];omega,List.drop_length_add_append];exact z1Q rest l k (by simpa using h)
theorem zVJ (rest:List AV) (x:Tp):∀(l:List Tp) (k:Nat),k<l.length->setAt (fl l rest) (k*4) (eTy x).cells=fl (l.set k x) rest
 | [],k,h=>by simp at h
 | t::l,0,_=>by
  rw[List.set_cons_zero,zDY,zDY];unfold setAt;rw[Nat.zero_mul,List.take_zero,List.nil_append,Nat.zero_add,show (eTy x).cells.length=(eTy t).cells.length from rfl,List.drop_left]
 | t::l,k+1,h=>by
  have ih:=zVJ rest x l k (by simpa using h);rw[List.set_cons_succ,zDY,zDY,<-ih];unfold setAt;rw[show (k+1)*4=(eTy t).cells.length+k*4 by rw[zHE];omega,List.take_length_add_append,List.append_assoc,Nat.add_assoc,List.drop_length_add_append]
def sw (l:List Tp) (k:Nat):List Tp:=(List.range l.length).map fun i=>if i<k∨l.length-1-i<k then l.getD (l.length-1-i) .no else l.getD i .no
theorem zJJ (l:List Tp) (k:Nat):(sw l k).length=l.length:=by simp[sw]
theorem zV8 {l:List Tp} {k i:Nat} (h:i<(sw l k).length):(sw l k)[i]=if i<k∨l.length-1-i<k then l.getD (l.length-1-i) .no else l.getD i .no:=by simp[sw]
theorem ze2 (l:List Tp):sw l 0=l:=by
 refine List.ext_getElem (zJJ l 0) fun i h1 h2=>?_;rw[zV8,if_neg (by omega)];simp[h2]
theorem zb6 {l:List Tp} {k:Nat} (h:l.length<=2*k+1):sw l k=l.reverse:=by
 refine List.ext_getElem (by rw[zJJ];simp) fun i h1 h2=>?_;rw[zJJ] at h1;rw[zV8,List.getElem_reverse];have h3:l.length-1-i<l.length:=by omega
 split
 ·simp[h3]
 ·have e:l.getD i .no=l.getD (l.length-1-i) .no:=congrArg (fun j=>l.getD j .no) (show i=l.length-1-i by omega);rw[e];simp[h3]
theorem za8 {l:List Tp} {k:Nat} (h:2*k+1<l.length) (h1:k<(sw l k).length) (h2:l.length-1-k<(sw l k).length) :
  ((sw l k).set k (sw l k)[l.length-1-k]).set (l.length-1-k) (sw l k)[k]=sw l (k+1):=by
 refine List.ext_getElem (by simp[zJJ]) fun i h3 h4=>?_;simp only[List.length_set,zJJ] at h3;simp only[List.getElem_set,zV8];by_cases e1:l.length-1-k=i
 ·rw[if_pos e1,if_neg (by omega),if_pos (by omega)]
  congr 1;omega
 ·rw[if_neg e1];by_cases e2:k=i
  ·rw[if_pos e2,if_neg (by omega),if_pos (by omega)]
   congr 1;omega
  ·rw[if_neg e2];by_cases e3:i<k∨l.length-1-i<k
   ·rw[if_pos e3,if_pos (by omega)]
   ·rw[if_neg e3,if_neg (by omega)]
theorem zWA (b cap:Nat) (l:List Tp) (rest:List AV) (hl:l.length<1000000000) :
  CallsG Tryz.prog (fnv wI) [(b,.cells (fl l rest))] [.lit (.slice (some ⟨b,0,none⟩) l.length cap)] [] fun r o h=>h=[(b,.cells (fl l.reverse rest))]:=by
 refine xM ttok mixed Tryz.func157 rfl (by rfl) (by rfl) (Nat.le_of_ble_eq_true rfl) (Nat.le_of_ble_eq_true rfl) (by kernel_rfl) ?_;have e0:IntKind.i64.wrap ((l.length:Nat)-1:Int)=(l.length:Int)-1:=zHU (by omega) (by omega);refine⟨{k:Nat // 2*k<=l.length},fun k=>{vs:=[(0,.v (.lit (.slice (some ⟨b,0,none⟩) l.length cap))),(2,.v (.lit (.int .i64 (k.1:Nat)))),(3,.v (.lit (.int .i64 ((l.length:Int)-1-(k.1:Nat)))))],ow:=[],hp:=[(b,.cells (fl (sw l k.1) rest))]},
  fun k=>l.length-k.1,⟨0,Nat.zero_le _⟩,⟨⟨rfl,rfl,?_,trivial⟩,trivial,?_⟩,?_⟩
 ·exact congrArg (fun n=>SV.v (AV.lit (Value.int .i64 n))) (e0.trans (by simp))
 ·show [(b,HO.cells (fl l rest))]=[(b,HO.cells (fl (sw l 0) rest))];rw[ze2]
 rintro⟨k,hk⟩;have hsl:=zJJ l k;refine⟨fun h=>?_,fun h=>?_⟩
 ·have h:2*k+1<l.length:=by
   have:=of_decide_eq_true h;simp only at this;omega
  have h1:k<(sw l k).length:=by omega
  have h2:l.length-1-k<(sw l k).length:=by omega
  have ej:((l.length:Int)-1-(k:Nat)).toNat=l.length-1-k:=by omega
  have hfl:=zP5 (sw l k) rest;have a1:=z1Q rest (sw l k) (l.length-1-k) h2;have a2:=z1Q rest (sw l k) k h1;have b1:=zVJ rest (sw l k)[l.length-1-k] (sw l k) k h1;have b2:=zVJ rest (sw l k)[k] ((sw l k).set k (sw l k)[l.length-1-k]) (l.length-1-k) (by simpa using h2);rw[za8 h h1 h2] at b2;refine⟨by show (0:Int)<=(l.length:Int)-1-(k:Nat);omega,by show (l.length:Int)-1-(k:Nat)<_;omega,?_⟩;have ek:(Int.toNat ((k:Nat):Int))=k:=rfl;refine⟨0,_,rfl,by rw[ej,hfl];omega,?_⟩;rw[Nat.zero_add,ej,a1];refine⟨by omega,by show ((k:Nat):Int)<_;omega,?_⟩;refine⟨0,_,rfl,by show 0+k*4+4<=(fl (sw l k) rest).length;rw[hfl];omega,?_⟩;rw[Nat.zero_add,ek,a2];refine⟨by omega,by show ((k:Nat):Int)<_;omega,?_⟩;refine⟨rfl,0,_,rfl,by show 0+k*4+4<=(fl (sw l k) rest).length;rw[hfl];omega,?_⟩;have b1':setAt (fl (sw l k) rest) (k*4) (AV.agg (eTy (sw l k)[l.length-1-k]).cells).cells=fl ((sw l k).set k (sw l k)[l.length-1-k]) rest:=b1;have b2':setAt (fl ((sw l k).set k (sw l k)[l.length-1-k]) rest) ((l.length-1-k)*4) (AV.agg (eTy (sw l k)[k]).cells).cells=fl (sw l (k+1)) rest:=b2;rw[Nat.zero_add,ek,b1'];refine⟨by show (0:Int)<=(l.length:Int)-1-(k:Nat);omega,by show (l.length:Int)-1-(k:Nat)<_;omega,?_⟩;refine⟨rfl,0,_,rfl,by
   show 0+Int.toNat ((l.length:Int)-1-(k:Nat))*4+4<=(fl ((sw l k).set k (sw l k)[l.length-1-k]) rest).length;rw[ej,zP5,List.length_set];omega,?_⟩
  rw[Nat.zero_add,ej,b2'];refine⟨⟨k+1,by omega⟩,(show l.length-(k+1)<l.length-k by omega),⟨rfl,?_,?_,trivial⟩,trivial,rfl⟩
  ·exact congrArg (fun n=>SV.v (AV.lit (Value.int .i64 n))) (wrap_succ (k:=k) (by omega))
  ·refine congrArg (fun n=>SV.v (AV.lit (Value.int .i64 n))) ?_;show IntKind.i64.wrap ((l.length:Int)-1-(k:Nat)-1)=(l.length:Int)-1-((k+1:Nat):Int);rw[zHU (by omega) (by omega)];omega
 ·have h:l.length<=2*k+1:=by
   have:=of_decide_eq_false h;simp only at this;omega
  show [(b,HO.cells (fl (sw l k) rest))]=_;rw[zb6 h]
theorem reverse_nil:zF Tryz.prog wI [.lit (.slice none 0 0)] (.tup []):=by
 refine zD ttok mixed Tryz.func157 rfl (by rfl) (Nat.le_of_ble_eq_true rfl) (by kernel_rfl) ?_;refine⟨Unit,fun _=>{vs:=[(2,.v (.lit (.int .i64 0))),(3,.v (.lit (.int .i64 (-1))))],ow:=[]},fun _=>0,(),⟨⟨rfl,rfl,trivial⟩,trivial,rfl⟩,?_⟩;rintro⟨⟩;refine⟨fun h=>(by cases h),fun _=>?_⟩;exact rfl
def zAC:Tp->Tp
 | .app x _=>zAC x
 | t=>t
def xB:Tp->List Tp
 | .app x b=>b::xB x
 | _=>[]
theorem zLT (t:Tp):(xB t).length<=t.sz:=by
 induction t with
 | app x b ihx _=>simp only[xB,List.length_cons,Tp.sz];omega
 | _=>simp[xB]
structure zeW (t:Tp) where
 cur:Tp
 col:List Tp
 blk:Option (Nat×Nat×List AV)
 hd:zAC cur=zAC t
 ar:col++xB cur=xB t
 ok:match blk with
  | none=>col=[]
  | some (_,cap,rest)=>col≠[]/\col.length<=cap/\rest.length=(cap-col.length)*4
theorem zcK (l:List Tp) (x:Tp) (rest rest':List AV):(fl l rest).take (l.length*4)++([eTy x].flatMap AV.cells++rest')=fl (l++[x]) rest':=by
 have h:((yA l).flatMap AV.cells).length=l.length*4:=by
  have:=zP5 l [];simpa[fl] using this
 unfold fl;rw[List.take_append_of_le_length (by rw[h];omega),<-h,List.take_length,<-List.append_assoc]
 congr 1
 simp[yA]
theorem zG8 (t : Tp) (hs : (xB t).length < 1000000) : zF Tryz.prog zN2 [eTy t] (.tup [eTy (zAC t), .sl (yA (xB t).reverse)]) := by
  refine z8U (esz := 4) (zN8 _) (fun x hx c hc => ?_) ?_
  · obtain ⟨y, _, rfl⟩ := List.mem_map.1 hx
    simp [eTy, AV.cells] at hc;rcases hc with rfl | rfl | rfl | rfl <;> rfl
  refine xM ttok mixed Tryz.func155 rfl (by rfl) (by rfl) (Nat.le_of_ble_eq_true rfl) (Nat.le_of_ble_eq_true rfl) (by kernel_rfl) ?_
  refine ⟨zeW t, fun s => { vs := [(1, .box 0 (eTy s.cur)), (2, .box 0 (eTy .no)), (4, .v (.lit (match s.blk with
      | none => .slice none 0 0
      | some (b, cap, _) => .slice (some ⟨b, 0, none⟩) s.col.length cap)))], ow := [], hp := (match s.blk with
      | none => []
      | some (b, _, rest) => [(b, .cells (fl s.col rest))]) }, fun s => s.cur.sz, ⟨t, [], none, rfl, rfl, rfl⟩, ⟨⟨rfl, rfl, .inl rfl, trivial⟩, trivial, rfl⟩, ?_⟩
  rintro ⟨cur, col, blk, hd, ar, ok⟩;have hlen : col.length + (xB cur).length = (xB t).length := by rw [<- ar, List.length_append]
  have hcl : (yA col).length = col.length := by simp [yA]
  cases blk with
  | none =>
    have ok : col = [] := ok;subst ok;refine ⟨fun h => ?_, fun h => ?_⟩
    · obtain ⟨x, b, rfl⟩ := Tp.is_app (t := cur) (by simpa using h)
      refine ⟨_, by decide, rfl, rfl, ?_⟩;refine .inl ⟨_, zBE b, ?_⟩;refine ⟨rfl, by simp, by simp, zN8 [b], rfl, rfl, fun b' cap' zs h1 h2 => ?_⟩;refine ⟨_, by decide, rfl, rfl, ?_⟩;refine ⟨⟨x, [b], some (b', cap', zs), hd, ar, by simp, h1, h2⟩, by simp only [Tp.sz]; have := zAF b; omega, ⟨rfl, rfl, rfl, trivial⟩, trivial, ?_⟩;show [(b', HO.cells ([eTy b].flatMap AV.cells ++ zs))] = [(b', HO.cells (fl [b] zs))]
      rfl
    · have hna : ¬ cur.form = 4 := by simpa using h
      have e1 : zAC cur = cur := by cases cur <;> first | rfl | exact absurd rfl hna
      have e2 : xB cur = [] := by cases cur <;> first | rfl | exact absurd rfl hna
      rw [e1] at hd;rw [e2, List.append_nil] at ar;refine .inl ⟨_, reverse_nil, ?_⟩;refine .inl ⟨_, zBE cur, ?_⟩;refine ⟨rfl, .inl ⟨?_, ?_, rfl⟩⟩
      · rw [<- ar]; rfl
      · rw [<- hd]; rfl
  | some q =>
    obtain ⟨b0, cap, rest⟩ := q;obtain ⟨ok0, ok1, ok2⟩ := ok;refine ⟨fun h => ?_, fun h => ?_⟩
    · obtain ⟨x, b, rfl⟩ := Tp.is_app (t := cur) (by simpa using h)
      refine ⟨_, by decide, rfl, rfl, ?_⟩;refine .inl ⟨_, zBE b, ?_⟩;refine ⟨rfl, by simp, by simp; omega, zN8 [b], 0, _, rfl, ok1, ?_, fun b' cap' zs h1 h2 => ?_⟩
      · show (fl col rest).length = cap * 4
        rw [zP5, ok2, <- Nat.add_mul]; congr 1; omega
      refine ⟨_, by decide, rfl, rfl, ?_⟩;refine ⟨⟨x, col ++ [b], some (b', cap', zs), hd, by rw [List.append_assoc]; exact ar, by simp, by simpa using h1, by simpa using h2⟩, by simp only [Tp.sz]; have := zAF b; omega, ⟨rfl, rfl, ?_, trivial⟩, trivial, ?_⟩
      · show SV.v (AV.lit (.slice (some ⟨b', 0, none⟩) (col.length + 1) cap')) = SV.v (AV.lit (.slice (some ⟨b', 0, none⟩) (col ++ [b]).length cap'))
        rw [List.length_append]; rfl
      · show [(b', HO.cells ((fl col rest).take (col.length * 4) ++ ([eTy b].flatMap AV.cells ++ zs)))] = [(b', HO.cells (fl (col ++ [b]) zs))]
        rw [zcK]
    · have hna : ¬ cur.form = 4 := by simpa using h
      have e1 : zAC cur = cur := by cases cur <;> first | rfl | exact absurd rfl hna
      have e2 : xB cur = [] := by cases cur <;> first | rfl | exact absurd rfl hna
      rw [e1] at hd;rw [e2, List.append_nil] at ar;refine .inr ⟨rfl, [0], _, [], _, rfl, by simp, rfl, zWA b0 cap col rest (by omega), ?_⟩;rintro _ _ _ rfl;refine .inl ⟨_, zBE cur, ?_⟩;refine ⟨rfl, .inr ⟨b0, cap, rest, ?_, ?_, ?_⟩⟩
      · simp [yA, <- ar]; exact ok1
      · have hl : (yA col.reverse).length = col.length := by simp [yA]
        rw [<- hd, <- ar, hl]; rfl
      · rw [<- ar]; rfl
theorem split_ok (t:Tp):zF Tryz.prog 142 [eTy t] (.tup [eTy (partsOf t).1,eTy (partsOf t).2.1,.sb (partsOf t).2.2]):=by
 refine zG ttok mixed Tryz.func142 rfl (by rfl) (Nat.le_of_ble_eq_true rfl) (by kernel_rfl) ?_;refine .inl ⟨_,zBX t,?_⟩;refine .inl ⟨_,zBE _,?_⟩;refine .inl ⟨_,zBE _,?_⟩;refine⟨by kernel_rfl,?_⟩;exact rfl
abbrev OfS (w:Wd) (c:Cr) (t:Tp):Prop:=zF Tryz.prog 42 [eW w,eC c] (eTy t)
abbrev OfN (w:Wd) (c:Cr):Prop:=yS Tryz.prog 42 [eW w,eC c] wJ
theorem zA5 {c p:Cr} {r:List Cr} (h:c.kids=p::r):(c.e3 0)[0]? = some (eC p):=by rw[zNB,h];rfl
theorem zYV {c p q:Cr} {r:List Cr} (h:c.kids=p::q::r):(c.e3 0)[1]? = some (eC q):=by rw[zNB,h];rfl
theorem zX9 {w:Wd} {c p q:Cr} {tp tq:Tp} (hk:c.kids=[p,q]) (h1:OfS w p tp) (h2:OfS w q tq) (hs:(partsOf tp).2.2=true) (hsame:smb (partsOf tp).1 tq [] []=true) (hz:dp (partsOf tp).1<1000000000):zF Tryz.prog 119 [eW w,eC c] (eTy (partsOf tp).2.1):=by
 refine zG ttok mixed Tryz.func119 rfl (by rfl) (Nat.le_of_ble_eq_true rfl) (by kernel_rfl) ?_;refine⟨eC p,by omega,zA5 hk,rfl,?_⟩;refine .inl ⟨_,h1,?_⟩;refine⟨eC q,by omega,zYV hk,rfl,?_⟩;refine .inl ⟨_,h2,?_⟩;refine⟨by kernel_rfl,?_⟩;refine .inl ⟨_,split_ok tp,?_⟩;rw[hs];refine⟨fun _=>?_,fun h=>(by cases h)⟩;refine .inl ⟨_,xG _ _ hz,?_⟩;rw[hsame];refine .inl ⟨_,yN rfl,?_⟩;exact rfl
theorem z0X {w:Wd} {c p q:Cr} (hk:c.kids=[p,q]) (h1:OfN w p):yS Tryz.prog 119 [eW w,eC c] wJ:=by
 refine zJ ttok mixed Tryz.func119 rfl (by rfl) (Nat.le_of_ble_eq_true rfl) (by kernel_rfl) ?_;refine WsemQ.seq ttok mixed ?_;refine WsemQ.seqS (WsemQ.regionP ttok mixed [0,1,2,3,4,6,7,8,9,10,12,13,5,11,14,15] 12 (by kernel_rfl) (by kernel_rfl) ?_);refine⟨eC p,by omega,zA5 hk,rfl,?_⟩;refine⟨eC q,by omega,zYV hk,rfl,?_⟩;exact⟨by kernel_rfl,h1⟩
theorem zZ7 {w:Wd} {c p q:Cr} {tp:Tp} (hk:c.kids=[p,q]) (h1:OfS w p tp) (h2:OfN w q):yS Tryz.prog 119 [eW w,eC c] wJ:=by
 refine zJ ttok mixed Tryz.func119 rfl (by rfl) (Nat.le_of_ble_eq_true rfl) (by kernel_rfl) ?_;refine WsemQ.seq ttok mixed ?_;refine WsemQ.seqS (WsemQ.regionP ttok mixed [0,1,2,3,4,5,6,7,8,9,10,12,13,11,14,15] 13 (by kernel_rfl) (by kernel_rfl) ?_);refine⟨eC p,by omega,zA5 hk,rfl,?_⟩;refine .inl ⟨_,h1,?_⟩;refine⟨eC q,by omega,zYV hk,rfl,?_⟩;exact⟨by kernel_rfl,h2⟩
theorem zO0 {w:Wd} {c p q:Cr} {tp tq:Tp} (hk:c.kids=[p,q]) (h1:OfS w p tp) (h2:OfS w q tq) (hz:dp (partsOf tp).1<1000000000) (hs:¬((partsOf tp).2.2=true/\smb (partsOf tp).1 tq [] []=true)):yS Tryz.prog 119 [eW w,eC c] wJ:=by
 refine zJ ttok mixed Tryz.func119 rfl (by rfl) (Nat.le_of_ble_eq_true rfl) (by kernel_rfl) ?_;refine WsemQ.seq ttok mixed ?_;refine WsemQ.seq ttok mixed ?_;refine⟨eC p,by omega,zA5 hk,rfl,?_⟩;refine .inl ⟨_,h1,?_⟩;refine⟨eC q,by omega,zYV hk,rfl,?_⟩;refine .inl ⟨_,h2,?_⟩;refine⟨by kernel_rfl,?_⟩;refine WsemQ.seq ttok mixed ?_;refine .inl ⟨_,split_ok tp,?_⟩;refine WsemQ.seqS (WsemQ.region ttok 6 ?_);refine⟨fun h=>?_,fun h=>?_⟩
 ·refine .inl ⟨_,xG _ _ hz,?_⟩;exact zAD (by simpa[h] using hs)
 ·exact zAD rfl
abbrev xU:ByteArray:=⟨#[73,110,116]⟩
abbrev zDG:ByteArray:=⟨#[66,111,111,108]⟩
def zCG (s:ByteArray):Option Tp:=if s=⟨#[97,100,100]⟩∨s=⟨#[115,117,98]⟩∨s=⟨#[109,117,108]⟩∨s=⟨#[100,105,118]⟩ then some (.con xU) else if s=⟨#[101,113]⟩∨s=⟨#[108,116]⟩ then some (.con zDG) else none
structure IsInt (w:Wd) (p:Cr):Prop where
 of:∃t,OfS w p t/\smb t (.con xU) [] []=true/\dp t<1000000000
theorem zSL {w:Wd} {c:Cr} {r:Tp} (hl:c.kids.length<=1000) (h:∀p∈c.kids,IsInt w p) (hr:zCG c.s=some r):zF Tryz.prog 125 [eW w,eC c] (eTy r):=by
 refine zG ttok mixed Tryz.func125 rfl (by rfl) (Nat.le_of_ble_eq_true rfl) (by kernel_rfl) ?_;refine⟨{k:Nat // k<=c.kids.length},fun k=>{vs:=[(2,.box 0 (eW w)),(3,.box 0 (eC c)),(4,.box 0 (eTy .no)),(8,.v (.sl (c.e3 0))),(9,sv (c.kids.length:Nat)),(10,sv (k.1:Nat))]},
  fun k=>c.kids.length-k.1,⟨0,Nat.zero_le _⟩,⟨⟨rfl,rfl,rfl,rfl,svc (by rw[zFU]),rfl,trivial⟩,trivial,rfl⟩,?_⟩
 rintro⟨k,hk⟩;refine⟨fun h1=>?_,fun h1=>?_⟩
 ·have h1:k<c.kids.length:=by have h:=of_decide_eq_true h1;simp only at h;omega
  obtain⟨t,q1,q2,q3⟩:=(h _ (List.getElem_mem h1)).of;refine⟨_,by omega,zJ6 h1,rfl,?_⟩;refine .inl ⟨_,q1,?_⟩;refine .inl ⟨_,zAT _,?_⟩;refine .inl ⟨_,xG _ _ q3,?_⟩;refine .inl ⟨_,yN q2,?_⟩;exact⟨⟨k+1,h1⟩,by simp;omega,⟨rfl,rfl,rfl,rfl,rfl,svc (wrap_succ (k:=k) (by omega)),trivial⟩,trivial,rfl⟩
 ·have two:(c.s=⟨#[97,100,100]⟩∨c.s=⟨#[115,117,98]⟩∨c.s=⟨#[109,117,108]⟩∨c.s=⟨#[100,105,118]⟩)->r = .con xU:=fun h=>by unfold zCG at hr;rw[if_pos h] at hr;exact (Option.some.inj hr).symm
  have yes:r = .con xU->zF Tryz.prog 13 [.lit (.string xU)] (eTy r):=fun h=>by rw[h];exact zAT _
  have yes2:r = .con zDG->zF Tryz.prog 13 [.lit (.string zDG)] (eTy r):=fun h=>by rw[h];exact zAT _
  refine⟨fun a1=>?_,fun a1=>?_⟩
  ·refine .inl ⟨_,yes (two (.inl (of_decide_eq_true a1))),?_⟩;exact rfl
  ·refine⟨fun a2=>?_,fun a2=>?_⟩
   ·refine .inl ⟨_,yes (two (.inr (.inl (of_decide_eq_true a2)))),?_⟩;exact rfl
   ·refine⟨fun a3=>?_,fun a3=>?_⟩
    ·refine .inl ⟨_,yes (two (.inr (.inr (.inl (of_decide_eq_true a3))))),?_⟩;exact rfl
    ·refine⟨fun a4=>?_,fun a4=>?_⟩
     ·refine .inl ⟨_,yes (two (.inr (.inr (.inr (of_decide_eq_true a4))))),?_⟩;exact rfl
     ·have n4:¬(c.s=⟨#[97,100,100]⟩∨c.s=⟨#[115,117,98]⟩∨c.s=⟨#[109,117,108]⟩∨c.s=⟨#[100,105,118]⟩):=fun h=>by
       rcases h with h|h|h|h
       ·exact of_decide_eq_false a1 h
       ·exact of_decide_eq_false a2 h
       ·exact of_decide_eq_false a3 h
       ·exact of_decide_eq_false a4 h
      have two2:(c.s=⟨#[101,113]⟩∨c.s=⟨#[108,116]⟩)->r = .con zDG:=fun h=>by unfold zCG at hr;rw[if_neg n4,if_pos h] at hr;exact (Option.some.inj hr).symm
      refine⟨fun b1=>?_,fun b1=>?_⟩
      ·refine .inl ⟨_,yes2 (two2 (.inl (of_decide_eq_true b1))),?_⟩;exact rfl
      ·refine⟨fun b2=>?_,fun b2=>?_⟩
       ·refine .inl ⟨_,yes2 (two2 (.inr (of_decide_eq_true b2))),?_⟩;exact rfl
       ·exfalso;unfold zCG at hr;rw[if_neg n4,if_neg (fun h=>h.elim (of_decide_eq_false b1) (of_decide_eq_false b2))] at hr;cases hr
def z4Q (w:Wd) (u:Tp) (p:Cr):Prop:=OfN w p∨∃t,OfS w p t/\smb t u [] []=false/\dp t<1000000000
theorem zPU {w:Wd} {c:Cr} {m:Nat} (hl:c.kids.length<=1000) (hm:m<c.kids.length) (h:∀(k:Nat) (hk:k<c.kids.length),k<m->IsInt w c.kids[k]) (hb:z4Q w (.con xU) c.kids[m]):yS Tryz.prog 125 [eW w,eC c] wJ:=by
 refine zJ ttok mixed Tryz.func125 rfl (by rfl) (Nat.le_of_ble_eq_true rfl) (by kernel_rfl) ?_;refine WsemQ.seq ttok mixed ?_;refine WsemQ.seqS (WsemQ.seqS (WsemQ.of ttok mixed ?_));refine WsemQ.block (WsemQ.loop (α:={k:Nat // k<=m}) (fun k=>{vs:=[(2,.box 0 (eW w)),(3,.box 0 (eC c)),(4,.box 0 (eTy .no)),(8,.v (.sl (c.e3 0))),(9,sv (c.kids.length:Nat)),(10,sv (k.1:Nat))]})
  (fun k=>m-k.1) ⟨0,Nat.zero_le _⟩ ⟨⟨rfl,rfl,rfl,rfl,svc (by rw[zFU]),rfl,trivial⟩,trivial,rfl⟩ ?_)
 rintro⟨k,hk⟩;refine WsemQ.seq ttok mixed ?_;refine WsemQ.seq ttok mixed ?_;refine⟨fun h1=>?_,fun h1=>?_⟩
 ·have h1:k<c.kids.length:=by omega
  refine WsemQ.seqS (WsemQ.block ?_);refine WsemQ.seq ttok mixed ?_;refine⟨_,by omega,zJ6 h1,rfl,?_⟩;rcases Nat.lt_or_ge k m with hkm|hkm
  ·obtain⟨t,q1,q2,q3⟩:=(h k h1 hkm).of;refine WsemQ.of ttok mixed ?_;refine .inl ⟨_,q1,?_⟩;refine .inl ⟨_,zAT _,?_⟩;refine .inl ⟨_,xG _ _ q3,?_⟩;refine .inl ⟨_,yN q2,?_⟩;refine WsemQ.of ttok mixed ?_;exact⟨⟨k+1,hkm⟩,by simp;omega,⟨rfl,rfl,rfl,rfl,rfl,svc (wrap_succ (k:=k) (by omega)),trivial⟩,trivial,rfl⟩
  ·obtain rfl:k=m:=by omega
   rcases hb with hb|⟨t,q1,q2,q3⟩
   ·refine WsemQ.region ttok 2 ?_;exact hb
   ·refine WsemQ.region ttok 5 ?_;refine .inl ⟨_,q1,?_⟩;refine .inl ⟨_,zAT _,?_⟩;refine .inl ⟨_,xG _ _ q3,?_⟩;exact zAD q2
 ·exfalso;have h1:=of_decide_eq_false h1;simp only at h1;omega
theorem zUW {w:Wd} {c:Cr} (hl:c.kids.length<=1000) (h:∀p∈c.kids,IsInt w p) (hr:zCG c.s=none):yS Tryz.prog 125 [eW w,eC c] wJ:=by
 have n4:¬(c.s=⟨#[97,100,100]⟩∨c.s=⟨#[115,117,98]⟩∨c.s=⟨#[109,117,108]⟩∨c.s=⟨#[100,105,118]⟩):=fun h=>by unfold zCG at hr;rw[if_pos h] at hr;cases hr
 have n2:¬(c.s=⟨#[101,113]⟩∨c.s=⟨#[108,116]⟩):=fun h=>by unfold zCG at hr;rw[if_neg n4,if_pos h] at hr;cases hr
 refine zJ ttok mixed Tryz.func125 rfl (by rfl) (Nat.le_of_ble_eq_true rfl) (by kernel_rfl) ?_;refine WsemQ.seq ttok mixed ?_;refine WsemQ.seq ttok mixed ?_;refine⟨{k:Nat // k<=c.kids.length},fun k=>{vs:=[(2,.box 0 (eW w)),(3,.box 0 (eC c)),(4,.box 0 (eTy .no)),(8,.v (.sl (c.e3 0))),(9,sv (c.kids.length:Nat)),(10,sv (k.1:Nat))]},
  fun k=>c.kids.length-k.1,⟨0,Nat.zero_le _⟩,⟨⟨rfl,rfl,rfl,rfl,svc (by rw[zFU]),rfl,trivial⟩,trivial,rfl⟩,?_⟩
 rintro⟨k,hk⟩;refine⟨fun h1=>?_,fun h1=>?_⟩
 ·have h1:k<c.kids.length:=by have h:=of_decide_eq_true h1;simp only at h;omega
  obtain⟨t,q1,q2,q3⟩:=(h _ (List.getElem_mem h1)).of;refine⟨_,by omega,zJ6 h1,rfl,?_⟩;refine .inl ⟨_,q1,?_⟩;refine .inl ⟨_,zAT _,?_⟩;refine .inl ⟨_,xG _ _ q3,?_⟩;refine .inl ⟨_,yN q2,?_⟩;exact⟨⟨k+1,h1⟩,by simp;omega,⟨rfl,rfl,rfl,rfl,rfl,svc (wrap_succ (k:=k) (by omega)),trivial⟩,trivial,rfl⟩
 ·refine WsemQ.seq ttok mixed ?_;refine⟨fun a=>absurd (of_decide_eq_true a) fun e=>n4 (.inl e),fun _=>?_⟩;refine⟨fun a=>absurd (of_decide_eq_true a) fun e=>n4 (.inr (.inl e)),fun _=>?_⟩;refine⟨fun a=>absurd (of_decide_eq_true a) fun e=>n4 (.inr (.inr (.inl e))),fun _=>?_⟩;refine⟨fun a=>absurd (of_decide_eq_true a) fun e=>n4 (.inr (.inr (.inr e))),fun _=>?_⟩;refine⟨fun a=>absurd (of_decide_eq_true a) fun e=>n2 (.inl e),fun _=>?_⟩;refine⟨fun a=>absurd (of_decide_eq_true a) fun e=>n2 (.inr e),fun _=>?_⟩;exact zJ0 rfl rfl rfl rfl rfl rfl rfl rfl rfl
theorem zXT (to:Tp) (l:List Tp) (hl:l.length<4294967296):zF Tryz.prog zR4 [eTy to,.sl (yA l)] (eTy (zUA to l)):=by
 refine zD ttok mixed Tryz.func50 rfl (by rfl) (Nat.le_of_ble_eq_true rfl) (by kernel_rfl) ?_;refine .inl ⟨_,zBE to,?_⟩;have hlen:(yA l).length=l.length:=by simp[yA]
 refine⟨{k:Nat // k<=l.length},fun k=>{vs:=[(1,.v (.sl (yA l))),(4,.box 0 (eTy .no)),(5,.box 0 (eTy (zUA to (l.drop (l.length-k.1))))),(10,.v (.lit (.int .i64 ((yA l).length:Nat)))),(11,.v (.lit (.int .i64 (k.1:Nat))))]},
  fun k=>l.length-k.1,⟨0,Nat.zero_le _⟩,⟨⟨rfl,rfl,?_,rfl,rfl,trivial⟩,trivial,rfl⟩,?_⟩
 ·show SV.box 0 (eTy to)=SV.box 0 (eTy (zUA to (l.drop (l.length-0))));rw[Nat.sub_zero,List.drop_length];rfl
 rintro⟨k,hk⟩;refine⟨fun h=>?_,fun h=>?_⟩
 ·have h:k<l.length:=by simp[hlen] at h;omega
  have e1:IntKind.i64.wrap (((yA l).length:Nat)-1:Int)=((l.length-1:Nat):Int):=by rw[hlen,show ((l.length:Nat)-1:Int)=((l.length-1:Nat):Int) by omega];exact yH (by omega)
  have e2:IntKind.i64.wrap (((l.length-1:Nat):Int)-((k:Nat):Int))=((l.length-1-k:Nat):Int):=by rw[show (((l.length-1:Nat):Int)-((k:Nat):Int))=((l.length-1-k:Nat):Int) by omega];exact yH (by omega)
  have hlt:l.length-1-k<l.length:=by omega
  refine .inl ⟨_,zAT _,?_⟩;refine⟨eTy l[l.length-1-k],?_,?_,rfl,?_⟩
  ·show (0:Int)<=IntKind.i64.wrap (IntKind.i64.wrap (((yA l).length:Nat)-1:Int)-((k:Nat):Int));rw[e1,e2];omega
  ·show (yA l)[Int.toNat (IntKind.i64.wrap (IntKind.i64.wrap (((yA l).length:Nat)-1:Int)-((k:Nat):Int)))]? = _;rw[e1,e2];exact zQI hlt
  refine .inl ⟨_,zBE _,?_⟩;refine .inl ⟨_,zMV (.con arrow) _,?_⟩;refine .inl ⟨_,zMV (.app (.con arrow) _) _,?_⟩;refine⟨⟨k+1,h⟩,(show l.length-(k+1)<l.length-k by omega),⟨rfl,rfl,?_,rfl,?_,trivial⟩,trivial,rfl⟩
  ·show SV.box 0 (eTy (.app (.app (.con arrow) l[l.length-1-k]) (zUA to (l.drop (l.length-k)))))=SV.box 0 (eTy (zUA to (l.drop (l.length-(k+1)))));rw[show l.length-(k+1)=l.length-1-k by omega,List.drop_eq_getElem_cons hlt,show l.length-1-k+1=l.length-k by omega];rfl
  ·exact congrArg (fun l=>SV.v (AV.lit (Value.int .i64 l))) (wrap_succ (k:=k) (by omega))
 ·have h:k=l.length:=by simp[hlen] at h;omega
  subst h;show eTy (zUA to (l.drop (l.length-l.length)))=_;rw[Nat.sub_self,List.drop_zero]
theorem zX5 {w:Wd} {c p:Cr} {t:Tp} {K:Nat} (hk:c.kids=[p]) (hf:FitX K c.t w.ps) (hl:w.env.length<100000) (h1:OfS (w.more [(c.s,w.mean c.t)]) p t):zF Tryz.prog 120 [eW w,eC c] (eTy (zUA t [w.mean c.t])):=by
 refine zG ttok mixed Tryz.func120 rfl (by rfl) (Nat.le_of_ble_eq_true rfl) (by kernel_rfl) ?_;refine .inl ⟨_,qJ w c.t hf,?_⟩;refine .inl ⟨_,zG2 w [(c.s,w.mean c.t)] (by simp;omega),?_⟩;refine⟨eC p,by omega,zA5 hk,rfl,?_⟩;refine .inl ⟨_,h1,?_⟩;refine .inl ⟨_,zXT t [w.mean c.t] (by simp),?_⟩;refine⟨by kernel_rfl,?_⟩;exact rfl
theorem z7T {w:Wd} {c p:Cr} {K:Nat} (hk:c.kids=[p]) (hf:FitX K c.t w.ps) (hl:w.env.length<100000) (h1:OfN (w.more [(c.s,w.mean c.t)]) p):yS Tryz.prog 120 [eW w,eC c] wJ:=by
 refine zJ ttok mixed Tryz.func120 rfl (by rfl) (Nat.le_of_ble_eq_true rfl) (by kernel_rfl) ?_;refine WsemQ.seq ttok mixed ?_;refine WsemQ.seq ttok mixed ?_;refine .inl ⟨_,qJ w c.t hf,?_⟩;refine WsemQ.seqS (WsemQ.regionP ttok mixed [0,1,2,3,4,5,6,7,8,9,10,12,13,11,14,15] 13 (by kernel_rfl) (by kernel_rfl) ?_);refine .inl ⟨_,zG2 w [(c.s,w.mean c.t)] (by simp;omega),?_⟩;refine⟨eC p,by omega,zA5 hk,rfl,?_⟩;exact⟨by kernel_rfl,h1⟩
end Go.Proofs.YtdmbahepaglcbaaGreatDoor
