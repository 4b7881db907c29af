/- strings.Join of what stands for strings; the document's joined, bracket, braced. No condition but on sizes. -/
import Derived.Test.YtgonkhaebmfgiaaGreatDoorW
import Derived.Test.YtgonkhaebmfgiaaGreatDoorN
import Derived.Test.YtgonkhaebmfgiaaGreatDoorV
import Derived.Test.YtgonkhaebmfgiaaGreatDoorS1
import Derived.Test.YtgonkhaebmfgiaaGreatDoorA
import Derived.Ground.NamesProg
import Derived.Shelf.LaysM
import Derived.Shelf.Strconv.Itoa3
set_option linter.unusedSimpArgs false
set_option linter.unusedVariables false
namespace Go.Proofs.YtgonkhaebmfgiaaGreatDoor
open Go Fp Go.RowKit
set_option maxRecDepth 10000
set_option maxHeartbeats 4000000
set_option linter.unusedVariables false
def jnS (sep:ByteArray) (l:List ByteArray):ByteArray:=⟨(Lib.join (l.map (·.data.toList)) sep.data.toList).toArray⟩
theorem zQW {a b:ByteArray} (h:a.data.toList=b.data.toList):a=b:=by
 cases a;cases b;congr 1;exact Array.toList_inj.1 h
theorem zSV (sep:ByteArray):jnS sep [] = .empty:=rfl
theorem zNF (sep x:ByteArray):jnS sep [x]=x:=zQW (by simp[jnS,Lib.join,List.intercalate])
theorem zZP (sep:List UInt8) (l:List (List UInt8)) (y x:List UInt8):sep.intercalate ((l++[y])++[x])=sep.intercalate (l++[y])++sep++x:=by
 unfold List.intercalate;induction l with
 | nil=>simp
 | cons a l ih =>
  cases l with
  | nil=>simp
  | cons b l=>simp only[List.cons_append,List.intersperse_cons_cons,List.flatten_cons] at ih⊢;rw[ih];simp
theorem zIZ (sep:ByteArray) {l:List ByteArray} (hl:l≠[]) (x:ByteArray):jnS sep (l++[x])=jnS sep l++sep++x:=by
 obtain⟨r,y,rfl⟩:∃r y,l=r++[y]:=⟨l.dropLast,l.getLast hl,(List.dropLast_concat_getLast hl).symm⟩
 refine zQW ?_;have:=zZP sep.data.toList (r.map (·.data.toList)) y.data.toList x.data.toList;simp only[jnS,Lib.join,List.map_append,List.map_cons,List.map_nil,this,ByteArray.data_append,Array.toList_append]
theorem zLV (sep:ByteArray) (l:List ByteArray) (h:(jnS sep l).size<=140737488355328) (hl:l.length<=140737488355328):zF Tryz.prog 72 [.sl (eSs l),str sep] (str (jnS sep l)):=by
 refine⟨72,#[],#[],rfl,⟨Tryz.f72,Tryz.func72,rfl,rfl⟩,fun F w vs hfr hh ha hy=>?_⟩;have hlen:=ha.len
 match vs,hlen with
 | [v,u],_ =>
  have hu:=(ha.rep 1 u _ rfl rfl).lit_eq.1;subst hu;have hv:=ha.rep 0 v _ rfl rfl;have hyk:yD [v,Value.string sep] []=[]:=by cases v<;>rfl
  rw[hyk];have fin:∀(w':World) (r:ByteArray),r=jnS sep l->Below w.heap.size w w'->y5 F (keys ([]:List (Nat×HO))) [] w (fun r' o h=>r' = .lit (.string (jnS sep l))/\o=0/\h=[]) (.returned (.string r)) w':=fun w' r hr hB=>by
   subst hr;exact⟨_,_,0,[],F,rfl,⟨rfl,rfl,rfl⟩,.lit _ rfl,fun sz h=>by omega,⟨hB.os,hB.tape,hB.output,hB.size,fun b hb => .inr (.inr (hB.block b hb))⟩,fun b hb => .inl rfl,fun b hb=>hfr b (Nat.le_trans hB.size hb),⟨by simp[keys],fun b hb=>by simp[keys] at hb,fun x hx=>by simp at hx⟩,fun b hb=>by simp[keys] at hb⟩
  have none:∀a c,l=[]->Calls Tryz.prog 72 #[.slice a 0 c,.string sep] w (y5 F (keys ([]:List (Nat×HO))) [] w (fun r' o h=>r' = .lit (.string (jnS sep l))/\o=0/\h=[])):=fun a c h0=>by
   refine (zVE a c sep w).mono fun e w' hp=>?_;obtain⟨rfl,rfl⟩:=hp;exact fin w' _ (by subst h0;rfl) (Below.refl _ _)
  generalize hq:eSs l=q at hv;have e0:∀{v},(#[]:Array Value)++[v,Value.string sep].toArray ++ #[] = #[v,.string sep]:=by simp
  rw[e0];cases hv with
  | slNil=>exact none _ _ (by simpa[eSs] using hq)
  | slZ a=>exact none _ _ (by simpa[eSs] using hq)
  | sl b off n cap sz _ us hn hc hsz hcl hcell hrep =>
   subst hq;have hnl:n=l.length:=by rw[<-hn];simp[eSs]
   subst hnl;cases l with
   | nil=>exact none _ _ rfl
   | cons x r =>
    have hsz1:sz=1:=by
     have:=hsz (.lit (.string x)) (by simp[eSs]);simpa[AV.cells] using this.symm
    subst hsz1;refine (zRM b off cap (x::r) sep w (fun j y hj=>?_) ?_ hl hc ?_).mono fun e w' hp=>?_
    ·have hjl:=(List.getElem?_eq_some_iff.1 hj).1;have h1:=(hcell j (by omega)).1;have h2:=hrep j (.lit (.string y)) 0 (.lit (.string y)) (by show ((x::r).map _)[j]? = _;rw[List.getElem?_map,hj];rfl) rfl;rw[Nat.mul_one,Nat.add_zero] at h2;rw[h1,h2.lit_eq.1]
    ·have h1:=(hcell 0 (by simp)).1;exact Nat.lt_of_not_le fun hle=>by
      rw[World.cell?] at h1;simp[Array.getElem?_eq_none hle] at h1
    ·have e:(jnS sep (x::r)).size=(Lib.join ((x::r).map (·.data.toList)) sep.data.toList).length:=by
      rw[jnS,ByteArray.size,List.size_toArray]
     omega
    ·obtain⟨rfl,hB⟩:=hp;exact fin w' _ rfl hB
open Go Fp
set_option maxHeartbeats 8000000
theorem zJA (sep:ByteArray) {M:Nat}:∀l:List ByteArray,(∀x∈l,x.size<=M)->(jnS sep l.reverse).size<=l.length*(M+sep.size)
 | [],_=>Nat.zero_le _
 | x::l,h=>by
  have ih:=zJA sep l fun y hy=>h y (List.mem_cons_of_mem _ hy);have hx:=h x List.mem_cons_self;rw[List.reverse_cons,List.length_cons,Nat.add_mul,Nat.one_mul];by_cases hl:l.reverse=[]
  ·rw[hl,List.nil_append,zNF];omega
  ·rw[zIZ sep hl];simp only[ByteArray.size_append];omega
theorem zD0 (sep:ByteArray) (l:List ByteArray) {M:Nat} (h:∀x∈l,x.size<=M):(jnS sep l).size<=l.length*(M+sep.size):=by
 have:=zJA sep l.reverse fun x hx=>h x (List.mem_reverse.1 hx)
 rwa [List.reverse_reverse,List.length_reverse] at this
theorem zL8 (sep:ByteArray) (l:List ByteArray) {M:Nat} (hM:∀x∈l,x.size<=M) (hl:l.length<=100000) (hb:M+sep.size<=1000000000):zF Tryz.prog 123 [.sl (eSs l),str sep] (str (jnS sep l)):=by
 refine zD ttok mixed Tryz.func123 rfl (by rfl) (Nat.le_of_ble_eq_true rfl) (by kernel_rfl) ?_;refine⟨{k:Nat // k<=l.length},fun k=>{vs:=[(0,.v (.sl (eSs l))),(1,.v (str sep)),(5,.v (str (jnS sep (l.take k.1)))),(6,sv (k.1:Nat))]},
  fun k=>l.length-k.1,⟨0,Nat.zero_le _⟩,⟨⟨rfl,rfl,by rw[List.take_zero,zSV];rfl,rfl,trivial⟩,trivial,rfl⟩,?_⟩
 rintro⟨k,hk⟩;refine⟨fun h=>?_,fun h=>?_⟩
 ·have h:k<l.length:=by have h:=of_decide_eq_true h;rw[zAZ] at h;simp only at h;omega
  have hbd:=zD0 sep (l.take k) (M:=M) fun x hx=>hM x (List.mem_of_mem_take hx);have hkl:(l.take k).length<=100000:=by rw[List.length_take];omega
  have hm:=Nat.mul_le_mul hkl hb;have hx:=hM _ (List.getElem_mem h);have hsn:l.take (k+1)=l.take k++[l[k]]:=List.take_succ_eq_append_getElem h;refine⟨fun h2=>?_,fun h2=>?_⟩
  ·have h2:0<k:=by have h2:(0:Int)<(k:Int):=of_decide_eq_true h2;omega
   have hne:l.take k≠[]:=by intro e;have:=congrArg List.length e;rw[List.length_take,List.length_nil] at this;omega
   refine⟨by show (jnS sep (l.take k)).size+sep.size<=_;omega,?_⟩;refine⟨_,Int.natCast_nonneg _,zNQ h,rfl,?_⟩;refine⟨by show (jnS sep (l.take k)++sep).size+l[k].size<=_;rw[ByteArray.size_append];omega,?_⟩;refine⟨⟨k+1,h⟩,by simp;omega,⟨rfl,rfl,?_,svc (wrap_succ (k:=k) (by omega)),trivial⟩,trivial,rfl⟩;show SV.v (str (jnS sep (l.take k)++sep++l[k]))=SV.v (str (jnS sep (l.take (k+1))));rw[hsn,zIZ sep hne]
  ·have h2:k=0:=by have h2:¬(0:Int)<(k:Int):=of_decide_eq_false h2;omega
   subst h2;refine⟨_,Int.natCast_nonneg _,zNQ h,rfl,?_⟩;refine⟨by show (jnS sep (l.take 0)).size+l[0].size<=_;omega,?_⟩;refine⟨⟨0+1,h⟩,by simp;omega,⟨rfl,rfl,?_,svc (wrap_succ (k:=0) (by omega)),trivial⟩,trivial,rfl⟩;show SV.v (str (jnS sep (l.take 0)++l[0]))=SV.v (str (jnS sep (l.take (0+1))));rw[hsn,List.take_zero,List.nil_append,zNF,zSV];exact congrArg (fun b=>SV.v (str b)) (zQW (by simp))
 ·have h:k=l.length:=by have h:=of_decide_eq_false h;rw[zAZ] at h;simp only at h;omega
  subst h;rw[List.take_length];exact rfl
def semi:ByteArray:=⟨#[32,59,32]⟩
def brc (l:List ByteArray):ByteArray:=if l=[] then ⟨#[123,32,125]⟩ else ⟨#[123,32]⟩++jnS semi l++⟨#[32,125]⟩
theorem zLY (l:List ByteArray) {M:Nat} (hM:∀x∈l,x.size<=M) (hl:l.length<=100000) (hb:M<=900000000):zF Tryz.prog 79 [.sl (eSs l)] (str (brc l)):=by
 have hbd:=zD0 semi l hM;have hs:semi.size=3:=rfl;have hm:=Nat.mul_le_mul hl (show M+semi.size<=1000000000 by omega);have q1:(ByteArray.mk #[123,32]).size=2:=rfl;have q2:(ByteArray.mk #[32,125]).size=2:=rfl;refine zD ttok mixed Tryz.func79 rfl (by rfl) (Nat.le_of_ble_eq_true rfl) (by kernel_rfl) ?_;refine⟨fun h=>?_,fun h=>?_⟩
 ·have h:l=[]:=by have h:=of_decide_eq_true h;rw[zAZ] at h;exact List.length_eq_zero_iff.1 (by omega)
  rw[brc,if_pos h];exact rfl
 ·have h:¬l=[]:=fun e=>by have h:=of_decide_eq_false h;subst e;exact h rfl
  rw[brc,if_neg h];refine .inl ⟨_,zL8 semi l hM hl (by omega),?_⟩;refine⟨by omega,?_⟩;refine⟨by rw[ByteArray.size_append,q1,q2];omega,?_⟩;exact rfl
theorem zLX (l:List ByteArray) {M:Nat} (hM:∀x∈l,x.size<=M) (hl:l.length<=100000) (hb:M<=900000000):zF Tryz.prog 71 [.sl (eSs l)] (str (brc l)):=by
 have hbd:=zD0 semi l hM;have hs:semi.size=3:=rfl;have hm:=Nat.mul_le_mul hl (show M+semi.size<=1000000000 by omega);have q1:(ByteArray.mk #[123,32]).size=2:=rfl;have q2:(ByteArray.mk #[32,125]).size=2:=rfl;refine zD ttok mixed Tryz.func71 rfl (by rfl) (Nat.le_of_ble_eq_true rfl) (by kernel_rfl) ?_;refine⟨fun h=>?_,fun h=>?_⟩
 ·have h:l=[]:=by have h:=of_decide_eq_true h;rw[zAZ] at h;exact List.length_eq_zero_iff.1 (by omega)
  rw[brc,if_pos h];exact rfl
 ·have h:¬l=[]:=fun e=>by have h:=of_decide_eq_false h;subst e;exact h rfl
  rw[brc,if_neg h];refine .inl ⟨_,zLV semi l (by omega) (by omega),?_⟩;refine⟨by omega,?_⟩;refine⟨by rw[ByteArray.size_append,q1,q2];omega,?_⟩;exact rfl
theorem zDA {s:ByteArray} {b:Bool} (h:s.size<=1000000000):zF Tryz.prog 120 [str s,.sb b] (str (brk b s)):=by
 refine zH ttok mixed Tryz.func120 rfl (by rfl) (Nat.le_of_ble_eq_true rfl) (by kernel_rfl) ?_;refine⟨fun e=>?_,fun e=>?_⟩
 ·subst e;refine⟨by rw[sz1];omega,?_⟩;refine⟨by rw[ByteArray.size_append,sz1,sz1];omega,?_⟩;exact rfl
 ·subst e;exact rfl
open Go Go.RowKit Go.Shelf Go.Proofs Go.Sort
set_option maxRecDepth 100000
def Tryz.laysItoa_ren:Go.Shelf.Ren:=⟨fun|171=>68|243=>113|246=>139|283=>145|284=>146|285=>147|286=>148|129=>155|317=>154|318=>156|319=>157|320=>158|337=>159|338=>160|n=>n,fun|3=>3|9=>9|2=>2|4=>4|171=>149|0=>0|53=>150|37=>123|5=>5|173=>153|212=>163|51=>164|20=>20|213=>165|46=>167|232=>170|233=>171|n=>n,fun|17=>0|18=>2|19=>3|n=>n⟩
theorem Tryz.laysItoa : Go.Proofs.LaysM.n171 Tryz.prog Tryz.laysItoa_ren := {
  mixed := by kernel_rfl
  f129 := Tryz.func155.trans (congrArg some (by kernel_rfl))
  f171 := Tryz.func68.trans (congrArg some (by kernel_rfl))
  f243 := Tryz.func113.trans (congrArg some (by kernel_rfl))
  f246 := Tryz.func139.trans (congrArg some (by kernel_rfl))
  f283 := Tryz.func145.trans (congrArg some (by kernel_rfl))
  f284 := Tryz.func146.trans (congrArg some (by kernel_rfl))
  f285 := Tryz.func147.trans (congrArg some (by kernel_rfl))
  f286 := Tryz.func148.trans (congrArg some (by kernel_rfl))
  f317 := Tryz.func154.trans (congrArg some (by kernel_rfl))
  f318 := Tryz.func156.trans (congrArg some (by kernel_rfl))
  f319 := Tryz.func157.trans (congrArg some (by kernel_rfl))
  f320 := Tryz.func158.trans (congrArg some (by kernel_rfl))
  f337 := Tryz.func159.trans (congrArg some (by kernel_rfl))
  f338 := Tryz.func160.trans (congrArg some (by kernel_rfl))
  t0 := Tryz.underlying0
  a0 := Tryz.isAgg0
  z0 := Tryz.sizeOf0
  v0 := Tryz.zeroValue0
  t2 := Tryz.underlying2
  a2 := Tryz.isAgg2
  z2 := Tryz.sizeOf2
  v2 := Tryz.zeroValue2
  t3 := Tryz.underlying3
  a3 := Tryz.isAgg3
  z3 := Tryz.sizeOf3
  v3 := Tryz.zeroValue3
  t4 := Tryz.underlying4
  a4 := Tryz.isAgg4
  z4 := Tryz.sizeOf4
  v4 := Tryz.zeroValue4
  t5 := Tryz.underlying5
  a5 := Tryz.isAgg5
  z5 := Tryz.sizeOf5
  v5 := Tryz.zeroValue5
  t9 := Tryz.underlying9
  a9 := Tryz.isAgg9
  z9 := Tryz.sizeOf9
  v9 := Tryz.zeroValue9
  t20 := Tryz.underlying20
  a20 := Tryz.isAgg20
  z20 := Tryz.sizeOf20
  v20 := Tryz.zeroValue20
  t37 := Tryz.underlying123
  a37 := Tryz.isAgg123
  z37 := Tryz.sizeOf123
  v37 := Tryz.zeroValue123
  t46 := Tryz.underlying167
  a46 := Tryz.isAgg167
  z46 := Tryz.sizeOf167
  v46 := Tryz.zeroValue167
  t51 := Tryz.underlying164
  a51 := Tryz.isAgg164
  z51 := Tryz.sizeOf164
  v51 := Tryz.zeroValue164
  t53 := Tryz.underlying150
  a53 := Tryz.isAgg150
  z53 := Tryz.sizeOf150
  v53 := Tryz.zeroValue150
  t171 := Tryz.underlying149
  a171 := Tryz.isAgg149
  z171 := Tryz.sizeOf149
  v171 := Tryz.zeroValue149
  t173 := Tryz.underlying153
  a173 := Tryz.isAgg153
  z173 := Tryz.sizeOf153
  v173 := Tryz.zeroValue153
  t212 := Tryz.underlying163
  a212 := Tryz.isAgg163
  z212 := Tryz.sizeOf163
  v212 := Tryz.zeroValue163
  t213 := Tryz.underlying165
  a213 := Tryz.isAgg165
  z213 := Tryz.sizeOf165
  t232 := Tryz.underlying170
  a232 := Tryz.isAgg170
  z232 := Tryz.sizeOf170
  v232 := Tryz.zeroValue170
  t233 := Tryz.underlying171
  a233 := Tryz.isAgg171
  z233 := Tryz.sizeOf171
  v233 := Tryz.zeroValue171
  g17 := by kernel_rfl
  g18 := by kernel_rfl
  g19 := by kernel_rfl
  i0 := by kernel_rfl
  i2 := by kernel_rfl
  i3 := by kernel_rfl
  i4 := by kernel_rfl
  i5 := by kernel_rfl
  i9 := by kernel_rfl
  i20 := by kernel_rfl
  i37 := by kernel_rfl
  i46 := by kernel_rfl
  i51 := by kernel_rfl
  i53 := by kernel_rfl
  i171 := by kernel_rfl
  i173 := by kernel_rfl
  i212 := by kernel_rfl
  i232 := by kernel_rfl
  i233 := by kernel_rfl
  m17 := by kernel_rfl
  m18 := by kernel_rfl
  m19 := by kernel_rfl }
theorem zQM (n : Int) (h0 : -9223372036854775808 <= n) (h1 : n <= 9223372036854775807) (w : World) (htab : Lib.TabIs Tryz.prog w "internal/strconv.uint64pow10" .u64 Lib.pow10Tab) :
  Calls Tryz.prog 68 #[.int .i64 n] w fun e w'=>e = .returned (.string ⟨(Lib.itoa n).toArray⟩)/\Below w.heap.size w w' :=
 (Any.strconv_Itoa Tryz.laysItoa n h0 h1 w htab).mono fun e w' hp=>by
  obtain⟨h,k,os,rfl⟩:=hp;exact⟨h,rfl,rfl,rfl,by show w.heap.size<=(w.heap++os).size;rw[Array.size_append];omega,fun j hj=>Array.getElem?_append_left (xs:=w.heap) hj⟩
theorem zEM:∀u:Nat,Lib.decDigits u=(dcm u).data.toList:=by
 intro u;induction u using Nat.strongRecOn with
 | _ u ih =>
  rw[Lib.decDigits,dcm];by_cases h:u<10
  ·rw[dif_pos h,dif_pos h]
  ·rw[dif_neg h,dif_neg h,ih (u / 10) (by omega)];simp[ByteArray.data_append]
theorem zYS (n:Int):(⟨(Lib.itoa n).toArray⟩:ByteArray)=dci n:=by
 unfold Lib.itoa dci;by_cases h:n<0
 ·rw[if_pos h,if_neg (by omega),zEM,show (-n).toNat=n.natAbs by omega];apply ByteArray.ext;apply Array.toList_inj.1;simp[ByteArray.data_append]
 ·rw[if_neg h,if_pos (by omega),zEM]
def Tb (ob:Obj):Prop := ∃E c,ob = .cells (Lib.pow10Tab.map fun z=>Value.int .u64 z).toArray E c
def kb (ob:Obj):List (Nat×Fp.HO):=[(0,.raw (· = ob))]
theorem zYQ {ob:Obj} (hob:Tb ob) {n:Int} (h0 : -9223372036854775808<=n) (h1:n<=9223372036854775807):Fp.CallsG Tryz.prog (Fp.fnv 68) (kb ob) [.lit (.int .i64 n)] [] (fun r o h=>r=str (dci n)/\o=0/\h=kb ob):=by
 refine⟨68,#[],#[],rfl,⟨Tryz.f68,Tryz.func68,rfl,rfl⟩,fun F w vs hfr hh ha hy=>?_⟩;have hlen:=ha.len
 match vs,hlen with
 | [v],_ =>
  have hv:=(ha.rep 0 v _ rfl rfl).lit_eq.1;subst hv;have e0:((#[]:Array Value)++[Value.int .i64 n].toArray ++ #[]) = #[.int .i64 n]:=by simp
  rw[e0];obtain⟨o0,hb,hq⟩:∃o,w.heap[0]? = some o/\o=ob:=hh.ok (0,.raw (· = ob)) (by simp[kb]);subst hq;have h0s:0<w.heap.size:=Nat.lt_of_not_le fun h=>by rw[Array.getElem?_eq_none h] at hb;cases hb
  refine (zQM n h0 h1 w ?_).mono fun e w' hp=>?_
  ·obtain⟨E,c,rfl⟩:=hob;show (Tryz.prog.globalNamed "internal/strconv.uint64pow10").bind _ = _
   rw [show Tryz.prog.globalNamed "internal/strconv.uint64pow10" = some 0 by kernel_rfl, Option.bind_some, hb]
  ·obtain⟨rfl,hB⟩:=hp;refine⟨_,_,0,kb o0,F,rfl,⟨rfl,rfl,rfl⟩,by rw[zYS];exact .lit _ rfl,fun sz h=>by omega,⟨hB.os,hB.tape,hB.output,hB.size,fun b hb => .inr (.inr (hB.block b hb))⟩,fun b hb => .inl rfl,fun b hb=>hfr b (Nat.le_trans hB.size hb),⟨hh.nodup,hh.shut,fun x hx=>?_⟩,fun b hb => .inl hb⟩;obtain rfl:x=(0,.raw (· = o0)):=by simpa[kb] using hx
   exact⟨o0,by rw[hB.block 0 h0s];exact hb,rfl⟩
end Go.Proofs.YtgonkhaebmfgiaaGreatDoor
