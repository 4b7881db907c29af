/- strings.Join and slices.Insert, by the library's contracts. -/
import Derived.Test.YtgonkhaebmfgiaaGreatDoorS1
import Derived.Ground.NamesProg
import Derived.Ground.Names2Prog
import Derived.Shelf.Strings.OnBuilder
import Derived.Shelf.Spec.SlicesInsertGrow
import Derived.WalkKit
import Derived.Test.YtgonkhaebmfgiaaGreatDoorF
import Derived.Test.YtgonkhaebmfgiaaGreatDoorK
set_option linter.unusedSimpArgs false
set_option linter.unusedVariables false
namespace Go.Proofs.YtgonkhaebmfgiaaGreatDoor
open Go Go.RowKit Go.Shelf Go.Proofs
set_option maxRecDepth 100000
def Tryz.laysJoin_ren:Go.Shelf.Ren:=⟨fun|156=>72|165=>115|166=>116|169=>117|240=>141|241=>142|276=>150|277=>151|n=>n,fun|31=>47|9=>9|3=>3|4=>4|0=>0|20=>20|72=>125|76=>129|70=>122|37=>123|75=>128|127=>147|164=>156|5=>5|80=>131|n=>n,fun|n=>n⟩
theorem Tryz.laysJoin : Go.Proofs.Lays.n156 Tryz.prog Tryz.laysJoin_ren := {
  mixed := by kernel_rfl
  f156 := Tryz.func72.trans (congrArg some (by kernel_rfl))
  f165 := Tryz.func115.trans (congrArg some (by kernel_rfl))
  f166 := Tryz.func116.trans (congrArg some (by kernel_rfl))
  f169 := Tryz.func117.trans (congrArg some (by kernel_rfl))
  f240 := Tryz.func141.trans (congrArg some (by kernel_rfl))
  f241 := Tryz.func142.trans (congrArg some (by kernel_rfl))
  f276 := Tryz.func150.trans (congrArg some (by kernel_rfl))
  f277 := Tryz.func151.trans (congrArg some (by kernel_rfl))
  t0 := Tryz.underlying0
  a0 := Tryz.isAgg0
  z0 := Tryz.sizeOf0
  v0 := Tryz.zeroValue0
  t3 := Tryz.underlying3
  a3 := Tryz.isAgg3
  z3 := Tryz.sizeOf3
  v3 := Tryz.zeroValue3
  t4 := Tryz.underlying4
  a4 := Tryz.isAgg4
  z4 := Tryz.sizeOf4
  v4 := Tryz.zeroValue4
  t9 := Tryz.underlying9
  a9 := Tryz.isAgg9
  z9 := Tryz.sizeOf9
  v9 := Tryz.zeroValue9
  t20 := Tryz.underlying20
  a20 := Tryz.isAgg20
  z20 := Tryz.sizeOf20
  v20 := Tryz.zeroValue20
  t31 := Tryz.underlying47
  a31 := Tryz.isAgg47
  z31 := Tryz.sizeOf47
  v31 := Tryz.zeroValue47
  t37 := Tryz.underlying123
  a37 := Tryz.isAgg123
  z37 := Tryz.sizeOf123
  v37 := Tryz.zeroValue123
  t70 := Tryz.underlying122
  a70 := Tryz.isAgg122
  z70 := Tryz.sizeOf122
  v70 := Tryz.zeroValue122
  t72 := Tryz.underlying125
  a72 := Tryz.isAgg125
  z72 := Tryz.sizeOf125
  v72 := Tryz.zeroValue125
  t75 := Tryz.underlying128
  a75 := Tryz.isAgg128
  z75 := Tryz.sizeOf128
  v75 := Tryz.zeroValue128
  t76 := Tryz.underlying129
  a76 := Tryz.isAgg129
  z76 := Tryz.sizeOf129
  v76 := Tryz.zeroValue129
  t127 := Tryz.underlying147
  a127 := Tryz.isAgg147
  z127 := Tryz.sizeOf147
  v127 := Tryz.zeroValue147
  t164 := Tryz.underlying156
  a164 := Tryz.isAgg156
  z164 := Tryz.sizeOf156
  v164 := Tryz.zeroValue156 }
def Tryz.laysIns_ren:Go.Shelf.Ren:=⟨fun|22=>73|29=>118|30=>119|36=>143|17=>152|n=>n,fun|24=>47|9=>9|3=>3|4=>4|0=>0|n=>n,fun|n=>n⟩
theorem Tryz.laysIns : Go.Proofs.Lays2.n22 Tryz.prog Tryz.laysIns_ren := {
  mixed := by kernel_rfl
  f17 := Tryz.func152.trans (congrArg some (by kernel_rfl))
  f22 := Tryz.func73.trans (congrArg some (by kernel_rfl))
  f29 := Tryz.func118.trans (congrArg some (by kernel_rfl))
  f30 := Tryz.func119.trans (congrArg some (by kernel_rfl))
  f36 := Tryz.func143.trans (congrArg some (by kernel_rfl))
  t0 := Tryz.underlying0
  a0 := Tryz.isAgg0
  z0 := Tryz.sizeOf0
  v0 := Tryz.zeroValue0
  t3 := Tryz.underlying3
  a3 := Tryz.isAgg3
  z3 := Tryz.sizeOf3
  v3 := Tryz.zeroValue3
  t4 := Tryz.underlying4
  a4 := Tryz.isAgg4
  z4 := Tryz.sizeOf4
  v4 := Tryz.zeroValue4
  t9 := Tryz.underlying9
  a9 := Tryz.isAgg9
  z9 := Tryz.sizeOf9
  v9 := Tryz.zeroValue9
  t24 := Tryz.underlying47
  a24 := Tryz.isAgg47
  z24 := Tryz.sizeOf47
  v24 := Tryz.zeroValue47
  i9 := by kernel_rfl }
theorem Tryz.extra:Builder.Extra Tryz.prog Tryz.laysJoin_ren where
 sizeBuilder:=by kernel_rfl
 liesBuilder:=by kernel_rfl
 t5:=Tryz.underlying5
 a5:=Tryz.isAgg5
 z5:=Tryz.sizeOf5
 v5:=Tryz.zeroValue5
 infoByte:=by kernel_rfl
 cellsByte:=by kernel_rfl
 sizeByte:=by kernel_rfl
 neB5:=by decide
theorem zVE (a:Option Addr) (c:Nat) (sep:ByteArray) (w:World) :
  Calls Tryz.prog 72 #[.slice a 0 c,.string sep] w fun e w'=>e = .returned (.string ⟨#[]⟩)/\w'=w:=Any.strings_Join_none Tryz.laysJoin Tryz.extra a c sep w
theorem zRM (bk o c:Nat) (xs:List ByteArray) (sep:ByteArray) (w:World) (hcells:∀(j:Nat) x,xs[j]? = some x->w.cell? ⟨bk,o+j,none⟩=some (.string x)) (hbk:bk<w.heap.size) (hN:xs.length<=140737488355328) (hcap:xs.length<=c) (hlen:(Lib.join (xs.map (·.data.toList)) sep.data.toList).length<=140737488355328) :
  Calls Tryz.prog 72 #[.slice (some ⟨bk,o,none⟩) xs.length c,.string sep] w fun e w'=>e = .returned (.string ⟨(Lib.join (xs.map (·.data.toList)) sep.data.toList).toArray⟩)/\Below w.heap.size w w':=Any.strings_Join Tryz.laysJoin Tryz.extra bk o c xs sep w hcells hbk hN hcap hlen
open Go Go.RowKit Go.Shelf Go.Proofs Go.Lib
set_option maxHeartbeats 4000000
set_option linter.unusedVariables false
set_option linter.unusedSimpArgs false
theorem zK4 {P:Program} (w:World) (tS tR e:TypeId) (ht:P.underlying tS=some (.slice e)) (size:Nat) (hz:∀w,(Go.sizeOf e).run P w = .ok size w)
  (a b:Addr) (la ca lb cb:Nat) (hne:a.block≠b.block) (tA tB:TypeId) (kA kB:Nat) (hsa:w.shape? a.block=some (tA,kA)) (hsb:w.shape? b.block=some (tB,kB)) (hkA:kA≠0) (hkB:kB≠0)
  (hfb:w.frozen? b=false) (hfe:w.frozen? {block:=b.block,off:=kB} = false) :
  (Extern.SlicesOverlaps.overlaps #[tS,tS] #[tR] #[.slice (some a) la ca,.slice (some b) lb cb]).run P w = .ok (.bool false) w:=by
 have h1:(a.block != b.block)=true:=by simpa using hne
 have h2:(a.block == b.block)=false:=by simpa using hne
 conv=>lhs;arg 2;whnf
 have hb2:∀{α β:Type} (m:Sem α) (f:α->Sem β),m.bind f=(m >>= f):=fun _ _=>rfl;have h3:(#[tS,tS]:Array TypeId)[0]=tS:=rfl;by_cases h0:la=0∨lb=0∨size=0
 ·simp[Sem.run,hb2,h3,ht,hz,h0]
 ·obtain⟨k,rfl⟩:∃k,kB=k+1:=⟨kB-1,by omega⟩
  obtain⟨j,rfl⟩:∃j,kA=j+1:=⟨kA-1,by omega⟩
  cases hfa:w.frozen? a<;>cases hga:w.frozen? {block:=a.block,off:=j+1} <;>
   simp[Sem.run,hb2,h3,ht,hz,h0,h1,h2,frozen,noView,viewAt,mayBeOne,stringish,shape,hsa,hsb,hfa,hga,hfb,hfe]
theorem zXY (n c vb voff vc b:Nat) (cs:List Value) (x:Value) (w:World) (hn:0<n) (hroom:n+1<=c) (hc63:c<=9223372036854775807) (hvb:vb≠b) (hcl:cs.length=n)
  (hcs:∀(j:Nat) v,cs[j]? = some v->w.cell? ⟨b,j,none⟩=some v) (hsp:∀j,j<n+1->(w.cell? ⟨b,j,none⟩).isSome=true) (hfz:∀j,w.frozen? ⟨b,j,none⟩=false)
  (hx:w.cell? ⟨vb,voff,none⟩=some x) (h1c:∀v∈cs,v.oneCell'=true) (h1x:x.oneCell'=true)
  (tA tB:TypeId) (kA kB:Nat) (hsa:w.shape? vb=some (tA,kA)) (hsb:w.shape? b=some (tB,kB)) (hkA:kA≠0) (hkB:kB≠0) :
  Calls Tryz.prog 73 #[.slice (some ⟨b,0,none⟩) n c,.int .i64 0,.slice (some ⟨vb,voff,none⟩) 1 vc] w fun e w' =>
   e = .returned (.slice (some ⟨b,0,none⟩) (n+1) c)/\w'=(w.drew.setCells b 1 cs).setCells b 0 [x]:=by
 have L:=Tryz.laysIns;have u47:Tryz.prog.underlying 47=some (.slice 9):=L.t24;have z9:∀w,(Go.sizeOf 9).run Tryz.prog w = .ok 1 w:=L.z9;have hz2:¬((0:Int)=(n:Int)):=by omega
 have hsz:(Tryz.prog.info? 9).map (·.size)=some 1:=by
  obtain⟨i0,hi0,h0,h1,h2⟩:=info_parts L.i9;have hi0:Tryz.prog.info? 9=some i0:=hi0;rw[hi0];simp[h1]
 have hov:∀lb cb,(callFunc 118 #[.slice (some ⟨vb,voff,none⟩) 1 vc,.slice (some ⟨b,1,none⟩) lb cb]).run Tryz.prog w = .ok (.value (.bool false)) w:=fun lb cb=>by
  rw[run_callFunc_extern Tryz.func118 (by kernel_rfl) (by kernel_rfl) (by kernel_rfl) (e:=Extern.SlicesOverlaps.overlaps #[47,47] #[4]) (by kernel_rfl),
   zK4 w 47 4 9 u47 1 z9 ⟨vb,voff,none⟩ ⟨b,1,none⟩ 1 vc lb cb hvb tA tB kA kB hsa hsb hkA hkB (hfz _) (hfz _)]
  rfl
 have mixed:=L.mixed;have hw1:IntKind.i64.wrap 1=1:=rfl;have htn:(1:Int).toNat=1:=rfl;have hb1:(1:Int)<=(n:Int)+1:=by omega
 have hb3:(0:Int)<=(n:Int)+1:=by omega
 have hb4:¬(c=0):=by omega
 have hb2:¬(c=1):=by omega
 have hcp1:∀ty dc sc,(Builtin.copy_ #[47,47] ty #[.slice (some ⟨b,1,none⟩) n dc,.slice (some ⟨b,0,none⟩) (n+1) sc]).run Tryz.prog w.drew = .ok (goInt cs.length) (w.drew.setCells b 1 cs):=fun ty dc sc =>
  run_copy_cells w.drew _ _ ty 9 b 1 n dc ⟨b,0,none⟩ (n+1) sc cs u47 hsz (by rw[hcl];simp only[Nat.min_def];split<;>omega)
   (fun j v hj=>by rw[Addr.add_lit,Nat.zero_add];exact hcs j v hj)
   (fun j hj=>by exact hsp _ (by omega)) (fun j hj=>hfz _) h1c
 obtain⟨W1,hW1⟩:∃W1,W1=w.drew.setCells b 1 cs:=⟨_,rfl⟩
 have hsp1:∀k,k<n+1->(W1.cell? ⟨b,k,none⟩).isSome=true:=fun k hk=>by
  rw[hW1];exact isSome_setCells b cs 1 w.drew (fun j hj=>hsp (1+j) (by omega)) k (hsp k hk)
 have hcp2:∀(W:World),(∀x,W.cell? x=W1.cell? x)->(∀x,W.frozen? x=W1.frozen? x)->∀ty dc,(Builtin.copy_ #[47,47] ty #[.slice (some ⟨b,0,none⟩) (n+1) dc,.slice (some ⟨vb,voff,none⟩) 1 vc]).run Tryz.prog W = .ok (goInt [x].length) (W.setCells b 0 [x]):=fun W hWc hWf ty dc =>
  run_copy_cells W _ _ ty 9 b 0 (n+1) dc ⟨vb,voff,none⟩ 1 vc [x] u47 hsz (by simp only[Nat.min_def,List.length_cons,List.length_nil];split<;>omega)
   (fun j v hj=>by
    cases j with
    | zero =>
     rw[Addr.add_lit,hWc,hW1,World.cell?_setCells_out b _ _ _ _ (fun h _=>absurd h hvb),Nat.add_zero];simp at hj;subst hj;exact hx
    | succ j=>simp at hj)
   (fun j hj=>by rw[hWc,Nat.zero_add];exact hsp1 _ (by simp at hj;omega)) (fun j hj=>by rw[hWf,hW1,World.frozen?_setCells];exact hfz _) (by simpa using h1x)
 rw[<-hW1] at hcp1
 go_enter Tryz.func73,Tryz.ntmps73
 go_wp2_with (simp only[hov])
 go_region_law_o (refine step_copy_runI rfl _ _ 47 47 rfl _ _ (by simp[Act.eval,Act.put]) (by simp[Act.eval,Act.put]) (hcp1 _ _ _) ?_)
 go_wp2_with (at_builtin;refine wpList_copy_runI _ rfl _ _ 47 47 rfl _ _ rfl rfl (hcp2 _ (fun _=>rfl) (fun _=>rfl) _ _) ?_)
 go_ret
 first|exact⟨rfl,rfl⟩|exact⟨rfl,by rw[hW1]⟩
section
theorem zQ8 (a:Addr) (c:Nat) (w:World):Calls Tryz.prog 74 #[.slice (some a) 0 c] w fun e w'=>e = .returned (.slice (some ⟨w.heap.size,0,none⟩) 0 0)/\w'=w.alloc (.cells #[] 9):=by
 have mixed:=Tryz.laysIns.mixed;have u47:Tryz.prog.underlying 47=some (.slice 9):=Tryz.laysIns.t24;have i9:=Tryz.laysIns.i9;have t4:=Tryz.laysIns.t4;have a4:=Tryz.laysIns.a4;have z4:=Tryz.laysIns.z4;have v4:=Tryz.laysIns.v4;have t9:=Tryz.laysIns.t9;have a9:=Tryz.laysIns.a9;have z9:=Tryz.laysIns.z9;have v9:=Tryz.laysIns.v9;have t24:=Tryz.laysIns.t24;have a24:=Tryz.laysIns.a24;have z24:=Tryz.laysIns.z24;have v24:=Tryz.laysIns.v24;have q47:∀(w:World) (a:Option Addr) (n c n' c':Nat),(binOp .eql 47 (.slice a n c) (.slice none n' c')).run Tryz.prog w = .ok (.bool a.isNone) w:=fun w a n c n' c'=>Lib.run_eql_slice_nil w _ _ a n c n' c' u47;have r47:∀w,Sem.run Tryz.prog (underlying 47) w = .ok (TypeDesc.slice 9) w:=run_underlying u47
 go_enter Tryz.func74,Tryz.ntmps74
 go_wp2_with (at_builtin;refine wpList_append_room1 _ rfl _ _ 47 47 rfl 9 _ _ u47 i9 w.heap.size 0 0 0 rfl _ rfl 0 [] (Src.ofSlice _ u47 a 0 c [] rfl (by simp) (by simp)) (by omega) (by simp) (by simp) ?_)
 go_ret
 exact⟨rfl,rfl⟩
theorem clone_nil (n c:Nat) (w:World):Calls Tryz.prog 74 #[.slice none n c] w fun e w'=>e = .returned (.slice none 0 0)/\w'=w:=by
 have mixed:=Tryz.laysIns.mixed;have u47:Tryz.prog.underlying 47=some (.slice 9):=Tryz.laysIns.t24;have t4:=Tryz.laysIns.t4;have a4:=Tryz.laysIns.a4;have z4:=Tryz.laysIns.z4;have v4:=Tryz.laysIns.v4;have t24:=Tryz.laysIns.t24;have a24:=Tryz.laysIns.a24;have z24:=Tryz.laysIns.z24;have v24:=Tryz.laysIns.v24;have q47:∀(w:World) (a:Option Addr) (n c n' c':Nat),(binOp .eql 47 (.slice a n c) (.slice none n' c')).run Tryz.prog w = .ok (.bool a.isNone) w:=fun w a n c n' c'=>Lib.run_eql_slice_nil w _ _ a n c n' c' u47
 go_enter Tryz.func74,Tryz.ntmps74
 go_wp2
 go_ret
 exact⟨rfl,rfl⟩
end
open Go Fp
def z3J (l:List AV) (r:AV) (o:Nat) (h:List (Nat×HO)):Prop:=o=0/\∃v:VA,r=slA v l.length/\h=blk v l.length (flR l v.z)/\(l=[]->v.cap=0)/\(l≠[]->∃b,v.A=some ⟨b,0,none⟩/\v.cap=l.length+v.z.length)
theorem cloneQ0:CallsG Tryz.prog (fnv 74) [] [.sl []] [] (z3J []):=by
 refine⟨74,#[],#[],rfl,⟨Tryz.f74,Tryz.func74,rfl,rfl⟩,fun F w vs hfr hh ha hy=>?_⟩;have hlen:=ha.len
 match vs,hlen with
 | [v],_ =>
  obtain⟨A,cap,rfl,_⟩:=(ha.rep 0 v _ rfl rfl).sl0;have e0:(#[]:Array Value)++[Value.slice A 0 cap].toArray ++ #[] = #[.slice A 0 cap]:=by simp
  rw[e0];cases A with
  | none =>
   refine (clone_nil 0 cap w).mono fun e w' hp=>?_;obtain⟨rfl,rfl⟩:=hp;exact⟨_,_,0,[],F,rfl,⟨rfl,⟨none,0,[]⟩,rfl,blk_none.symm,fun _=>rfl,fun h=>absurd rfl h⟩,.lit _ rfl,fun sz h=>by omega,⟨rfl,rfl,rfl,Nat.le_refl _,fun b hb => .inr (.inr rfl)⟩,fun b hb => .inl rfl,hfr,⟨by simp[keys],fun b hb=>by simp[keys] at hb,fun x hx=>by simp at hx⟩,fun b hb=>by simp[keys] at hb⟩
  | some a =>
   refine (zQ8 a cap w).mono fun e w' hp=>?_;obtain⟨rfl,rfl⟩:=hp;have hgr:=Grow.alloc w (.cells #[] 9);exact⟨_,_,0,[],F,rfl,⟨rfl,⟨some ⟨w.heap.size,0,none⟩,0,[]⟩,rfl,blk_none.symm,fun _=>rfl,fun h=>absurd rfl h⟩,.lit _ rfl,fun sz h=>by omega,⟨hgr.os,hgr.tape,hgr.output,hgr.size,fun b hb => .inr (.inr (hgr.block b hb))⟩,fun b hb => .inl rfl,fun b hb=>hfr b (Nat.le_trans hgr.size hb),⟨by simp[keys],fun b hb=>by simp[keys] at hb,fun x hx=>by simp at hx⟩,fun b hb=>by simp[keys] at hb⟩
theorem x9 {b:Nat} {E:TypeId}:∀(vs:List Value) (o:Nat) (w:World) (cs:Array Value),w.heap[b]? = some (.cells cs E (0,0))->o+vs.length<=cs.size ->
  ∃cs',Stored w (w.setCells b o vs) b cs cs' E/\cs'.toList=cs.toList.take o++(vs++cs.toList.drop (o+vs.length))
 | [],o,w,cs,h,hl=>⟨cs,⟨rfl,rfl,rfl,rfl,h,h,rfl,fun _ _=>rfl⟩,by simp⟩
 | v::r,o,w,cs,h,hl=>by
  have hb:b<w.heap.size:=(Array.getElem?_eq_some_iff.1 h).1;have h1:(w.setCell ⟨b,o,none⟩ v).heap[b]? = some (.cells (cs.setIfInBounds o v) E (0,0)):=by
   simp[World.setCell,Array.getElem?_modify,h]
  simp only[List.length_cons] at hl;obtain⟨cs',s,e⟩:=x9 r (o+1) (w.setCell ⟨b,o,none⟩ v) (cs.setIfInBounds o v) h1 (by rw[Array.size_setIfInBounds];omega);refine⟨cs',⟨s.os,s.tape,s.output,s.size.trans (by simp[World.setCell]),h,s.now,s.len.trans (by simp),fun k hk=>(s.block k hk).trans ?_⟩,?_⟩
  ·simp[World.setCell,Array.getElem?_modify,Ne.symm hk]
  ·rw[e];have ho:o<cs.toList.length:=by rw[Array.length_toList];omega
   rw[Array.toList_setIfInBounds,List.drop_set_of_lt (by omega),List.take_succ_eq_append_getElem (by simpa using ho),List.take_set_of_le (Nat.le_refl _)];simp[Nat.add_assoc,Nat.add_comm 1]
def Cln (v:VA) (l:List ByteArray):Prop:=(l=[]->v.cap=0)/\(l≠[]->∃b,v.A=some ⟨b,0,none⟩/\v.cap=l.length+v.z.length)
def zW2 (l:List ByteArray) (r:AV) (o:Nat) (h:List (Nat×HO)):Prop:=o=0/\∃b cap z,r = .lit (.slice (some ⟨b,0,none⟩) l.length cap)/\h=[(b,HO.cells (flR (eSs l) z))]/\l.length<=cap
theorem flS (l:List ByteArray) (z:List AV):flR (eSs l) z=eSs l++z:=by
 unfold flR
 congr 1
 induction l with
 | nil=>rfl
 | cons a l ih=>show [str a]++(eSs l).flatMap AV.cells=_;rw[ih];rfl
theorem z5X {F:Nat->Option Nat} {w:World} {cs:List Value} {l:List ByteArray} {z:List AV} (h:RepCells F w cs (flR (eSs l) z)):∃u,cs=l.map Value.string++u/\RepCells F w u z:=by
 rw[flS] at h;have hl:=h.1;rw[List.length_append,zAZ] at hl;refine⟨cs.drop l.length,?_,by rw[List.length_drop];omega,fun j u c hu hc=>h.2 (l.length+j) u c (by rwa [List.getElem?_drop] at hu) (by rw[List.getElem?_append_right (by rw[zAZ];omega),zAZ,show l.length+j-l.length=j by omega];exact hc)⟩;refine List.ext_getElem? fun j=>?_;by_cases hj:j<l.length
 ·rw[List.getElem?_append_left (by simpa using hj),List.getElem?_map,List.getElem?_eq_getElem hj];have hc:j<cs.length:=by omega
  have:=(h.2 j cs[j] (str l[j]) (List.getElem?_eq_getElem hc) (by rw[List.getElem?_append_left (by rw[zAZ];exact hj),eSs,List.getElem?_map,List.getElem?_eq_getElem hj];rfl)).1.lit_eq.1;rw[List.getElem?_eq_getElem hc,this];rfl
 ·rw[List.getElem?_append_right (by simp;omega),List.getElem?_drop];simp;congr 1;omega
theorem zIJ {F:Nat->Option Nat} {w:World} {l:List ByteArray} {z:List AV} {u:List Value} (h:RepCells F w u z):RepCells F w (l.map Value.string++u) (flR (eSs l) z):=by
 rw[flS];refine RepCells.append ⟨by simp[eSs],fun j u c hu hc=>?_⟩ h;rw[List.getElem?_map] at hu;rw[eSs,List.getElem?_map] at hc;cases hl:l[j]? with
 | none=>rw[hl] at hu;cases hu
 | some s=>rw[hl] at hu hc;simp at hu hc;subst hu;subst hc;exact⟨.lit _ rfl,rfl⟩
theorem zeroS (n:Nat):∃z:List AV,∀(F:Nat->Option Nat) (w:World),RepCells F w (Builtin.zeroCells (Value.string ⟨#[]⟩).cells n).toList z:=by
 refine⟨List.replicate n (str .empty),fun F w=>?_⟩;have e:(Builtin.zeroCells (Value.string ⟨#[]⟩).cells n).toList=List.replicate n (Value.string .empty):=by
  simp[Builtin.zeroCells,Value.cells,Nat.mod_one];exact List.ext_getElem (by simp) fun i h1 h2=>by simp;rfl
 rw[e];refine⟨by simp,fun j u c hu hc=>?_⟩;have h1:=List.mem_of_getElem? hu;have h2:=List.mem_of_getElem? hc;rw[(List.mem_replicate.1 h1).2,(List.mem_replicate.1 h2).2];exact⟨.lit _ rfl,rfl⟩
theorem zOP {F:Nat->Option Nat} {w w':World} {hk:List Nat} {cs:Array Value} {E:TypeId} {l:List ByteArray} {z:List AV} {cap:Nat} (hfr:Fresh F w) (hg:Grow w w') (hsz:w'.heap.size=w.heap.size+1) (hb:w'.heap[w.heap.size]? = some (.cells cs E (0,0)))
  (hc:∀(F:Nat->Option Nat) (w:World),RepCells F w cs.toList (flR (eSs l) z)) (hcap:l.length<=cap):y5 F hk [] w (zW2 l) (.returned (.slice (some ⟨w.heap.size,0,none⟩) l.length cap)) w':=by
 refine⟨_,_,0,[(w.heap.size,HO.cells (flR (eSs l) z))],fun b=>if b=w.heap.size then some 0 else F b,rfl,⟨rfl,w.heap.size,cap,z,rfl,rfl,hcap⟩,.lit _ rfl,fun sz h=>by omega,⟨hg.os,hg.tape,hg.output,hg.size,fun b hb => .inr (.inr (hg.block b hb))⟩,
  fun b hb => .inl (by simp[show b≠w.heap.size by omega]),fun b hb=>?_,⟨by simp[keys],fun b hb=>?_,fun x hx=>?_⟩,fun b hb=>?_⟩
 ·simp only;rw[if_neg (by omega)];exact hfr b (by omega)
 ·simp[keys] at hb;subst hb;simp
 ·simp at hx;subst hx;exact⟨cs,E,hb,hc _ _⟩
 ·simp[keys] at hb;subst hb;exact .inr (Nat.le_refl _)
theorem z0P (v:VA) (l:List ByteArray) (a:ByteArray) (hv:Cln v l) (hl:l.length<=1000000) (hcap:v.cap<=9223372036854775807):CallsG Tryz.prog (fnv 73) (blk v l.length (flR (eSs l) v.z)) [slA v l.length,.lit (.int .i64 0),.sl [str a]] [] (zW2 (a::l)):=by
 refine⟨73,#[],#[],rfl,⟨Tryz.f73,Tryz.func73,rfl,rfl⟩,fun F w vs hfr hh ha hy=>?_⟩;have hlen:=ha.len
 match vs,hlen with
 | [v0,v1,v2],_ =>
  have h0:=(ha.rep 0 v0 _ rfl rfl).lit_eq.1;have h1:=(ha.rep 1 v1 _ rfl rfl).lit_eq.1;have h2:=ha.rep 2 v2 _ rfl rfl;subst h0;subst h1;have hyk:yD [Value.slice v.A l.length v.cap,Value.int .i64 0,v2] []=[]:=by cases v2<;>rfl
  have e0:(#[]:Array Value)++[Value.slice v.A l.length v.cap,Value.int .i64 0,v2].toArray ++ #[] = #[.slice v.A l.length v.cap,.int .i64 0,v2]:=by simp
  rw[e0];show Calls Tryz.prog 73 _ w (y5 F _ (yD [Value.slice v.A l.length v.cap,Value.int .i64 0,v2] []) w _);rw[hyk];obtain⟨vb,voff,vc,rfl,hvc,hcv,hcm⟩:∃vb voff vc,v2 = .slice (some ⟨vb,voff,none⟩) 1 vc/\1<=vc/\w.cell? ⟨vb,voff,none⟩=some (.string a)/\com F vb voff:=by
   cases h2 with
   | sl b off n cap sz _ us hn hc hsz hcl hcell hrep =>
    have hn1:n=1:=by simpa using hn.symm
    subst hn1;have hsz1:sz=1:=by
     have:=hsz (str a) (by simp);simpa[AV.cells] using this.symm
    subst hsz1;have h3:=hcell 0 (by decide);have h4:=hrep 0 (str a) 0 (str a) rfl rfl;rw[Nat.mul_one,Nat.add_zero] at h4;have h4:=h4.lit_eq.1;rw[Nat.add_zero] at h3;exact⟨b,off,cap,rfl,hc,by rw[h3.1,h4],h3.2⟩
  have hxs:∀(j:Nat) (u:Value),[Value.string a][j]? = some u->w.cell? ⟨vb,voff+j,none⟩=some u:=fun j u hj=>by
   cases j with
   | zero=>simp at hj;subst hj;exact hcv
   | succ j=>simp at hj
  cases l with
  | nil =>
   have hc0:=hv.1 rfl;have hA:∀A,(v.A=A)->Calls Tryz.prog 73 #[.slice A 0 0,.int .i64 0,.slice (some ⟨vb,voff,none⟩) 1 vc] w (y5 F (keys (blk v 0 (flR (eSs []) v.z))) [] w (zW2 [a])):=fun A _=>by
    refine (Go.Proofs.Any2.slices_Insert_string_end_grow Tryz.laysIns A 0 0 vb voff 1 vc [] [.string a] w (by decide) (Nat.le_refl _) (by decide) (by decide) rfl rfl (fun _=>rfl) (fun _ _ j u hj=>by simp at hj) hxs (by simp[Value.oneCell'])).mono fun e w' hp=>?_;obtain⟨rfl,rfl⟩:=hp;obtain⟨z,hz⟩:=zeroS (grownCap w (0+1) 0 (Tryz.laysIns_ren.t 9)-(0+1));have hgc:1<=grownCap w (0+1) 0 (Tryz.laysIns_ren.t 9):=grownCap_ge w (0+1) 0 _;refine zOP (l:=[a]) (z:=z) hfr ((Grow.drew w).trans (Grow.alloc w.drew _)) (by simp[World.alloc]) (World.heap_alloc_new w.drew _) (fun F w=>?_) hgc;have:=zIJ (l:=[a]) (hz F w);simpa using this
   have:=hA v.A rfl;rw[hc0];exact this
  | cons x r =>
   obtain⟨b,hb,hcp⟩:=hv.2 (by simp);obtain⟨A,cap,z⟩:=v;simp only at hb hcp hcap;subst hb;have hh:HeapIn F w [(b,HO.cells (flR (eSs (x::r)) z))]:=hh;obtain⟨cs,E,hw,hrc⟩:=hh.ok _ List.mem_cons_self;have hsh:F b=some 0:=hh.shut b (by simp[keys]);obtain⟨u,hu,hru⟩:=z5X hrc;obtain⟨n,hn⟩:∃n,n=(x::r).length:=⟨_,rfl⟩
   obtain⟨L,hL⟩:∃L:List Value,L=(x::r).map Value.string:=⟨_,rfl⟩
   have hLl:L.length=n:=by rw[hL,hn];simp
   rw[<-hL] at hu;have hul:u.length=z.length:=hru.1;have hcsz:cs.size=n+z.length:=by rw[<-Array.length_toList,hu,List.length_append,hLl,hul]
   have hn0:0<n:=by rw[hn];simp
   have hvb:vb≠b:=fun h=>by
    subst h;exact absurd (hcm 0 hsh) (by omega)
   have hcell:∀j,w.cell? ⟨b,j,none⟩=cs[j]?:=fun j=>by simp[World.cell?,hw]
   have hcs:∀(j:Nat) (v:Value),L[j]? = some v->w.cell? ⟨b,j,none⟩=some v:=fun j v hj=>by
    rw[hcell,<-Array.getElem?_toList,hu,List.getElem?_append_left (List.getElem?_eq_some_iff.1 hj).1];exact hj
   have h1c:∀v∈L,v.oneCell'=true:=fun v hv=>by
    rw[hL] at hv;obtain⟨s,_,rfl⟩:=List.mem_map.1 hv;rfl
   rw[<-hn] at hcp
   suffices hs:Calls Tryz.prog 73 #[.slice (some ⟨b,0,none⟩) n cap,.int .i64 0,.slice (some ⟨vb,voff,none⟩) 1 vc] w (y5 F [b] [] w (zW2 (a::x::r))) by
    rw[hn] at hs;exact hs
   have hlen2:(a::x::r).length=n+1:=by rw[hn];rfl
   by_cases hroom:n+1<=cap
   ·have hshv:∃tA kA,w.shape? vb=some (tA,kA)/\kA≠0:=by
     cases hq:w.heap[vb]? with
     | none=>simp[World.cell?,hq] at hcv
     | some o =>
      cases o with
      | cells c t fr =>
       simp[World.cell?,hq] at hcv;have h5:=(Array.getElem?_eq_some_iff.1 hcv).1;exact⟨t,c.size,by simp[World.shape?,hq],by omega⟩
      | _=>simp[World.cell?,hq] at hcv
    obtain⟨tA,kA,hsa,hkA⟩:=hshv;refine (zXY n cap vb voff vc b L (.string a) w hn0 hroom hcap hvb hLl hcs (fun j hj=>by rw[hcell,Array.getElem?_eq_getElem (by omega)];rfl) (fun j=>by simp[World.frozen?,hw]) hcv h1c rfl tA E kA cs.size hsa (by simp[World.shape?,hw]) hkA (by omega)).mono fun e w' hp=>?_;obtain⟨rfl,rfl⟩:=hp;obtain⟨cs1,s1,e1⟩:=x9 L 1 w.drew cs hw (by omega);obtain⟨cs2,s2,e2⟩:=x9 [Value.string a] 0 (w.drew.setCells b 1 L) cs1 s1.now (by have:=s1.len;simp;omega);have hk:Kept F [b] [] w ((w.drew.setCells b 1 L).setCells b 0 [Value.string a]):=⟨s2.os.trans s1.os,s2.tape.trans s1.tape,s2.output.trans s1.output,Nat.le_of_eq (s2.size.trans s1.size).symm,fun k hk=>by
     by_cases h:k=b
     ·exact .inl (by simp[h])
     ·exact .inr (.inr ((s2.block k h).trans (s1.block k h)))⟩
    have hx:zWM F F w []:=fun b hb => .inl rfl;have hkp:=hk.keeps hx (fun b' hb'=>by simp at hb';subst hb';exact hsh);refine⟨_,_,0,[(b,HO.cells (flR (eSs (a::x::r)) (z.drop 1)))],F,rfl,⟨rfl,b,cap,z.drop 1,by rw[hlen2],rfl,by omega⟩,.lit _ rfl,fun sz h=>by omega,hk,hx,fun b' hb'=>hfr b' (by rw[s2.size,s1.size] at hb';exact hb'),⟨by simp[keys],fun b' hb'=>by simp[keys] at hb';subst hb';exact hsh,fun y hy=>?_⟩,fun b' hb'=>by simp[keys] at hb';subst hb';exact .inl List.mem_cons_self⟩;obtain rfl:=List.mem_singleton.1 hy;refine⟨cs2,E,s2.now,?_⟩;have e3:cs2.toList=(a::x::r).map Value.string++u.drop 1:=by
     rw[e2,e1,hu];have h5:(List.take 1 (L++u)).length=1:=by rw[List.length_take,List.length_append];omega
     have h6:(L++u).drop (1+L.length)=u.drop 1:=by
      rw[List.drop_append,List.drop_eq_nil_of_le (by omega),List.nil_append];congr 1;omega
     show List.take 0 _++([Value.string a]++List.drop 1 (List.take 1 (L++u)++(L++(L++u).drop (1+L.length))))=_;rw[List.drop_left' h5,h6,hL];simp
    rw[e3];exact zIJ ((hru.mono hkp).dropN 1)
   ·have hcn:cap=n:=by omega
    obtain⟨z1,hz1⟩:=zeroS (grownCap w (n+1) cap (Tryz.laysIns_ren.t 9)-(n+1));refine (Go.Proofs.Any2.slices_Insert_string_grow Tryz.laysIns b 0 n cap 0 vb voff 1 vc L [.string a] w hn0 (by decide) (by omega) (by omega) (by omega) hLl rfl (fun j v hj=>by rw[Nat.zero_add];exact hcs j v hj) hxs h1c (by simp[Value.oneCell'])).mono fun e w' hp=>?_;obtain⟨rfl,rfl⟩:=hp;obtain⟨G,hG⟩:∃G,G=grownCap w (n+1) cap (Tryz.laysIns_ren.t 9):=⟨_,rfl⟩
    have hGn:n+1<=G:=by rw[hG];exact grownCap_ge w (n+1) cap _
    rw[<-hG] at hz1⊢;obtain⟨Z2,hZ2⟩:∃Z,Z=Builtin.zeroCells (Value.string ⟨#[]⟩).cells (G-(n+1)):=⟨_,rfl⟩
    obtain⟨Z1,hZ1⟩:∃Z,Z=Builtin.zeroCells (Value.string ⟨#[]⟩).cells (n+1-0):=⟨_,rfl⟩
    have hZ1l:Z1.size=n+1:=by rw[hZ1];simp[Builtin.zeroCells,Value.cells]
    rw[<-hZ1,<-hZ2,List.take_zero,List.drop_zero];rw[<-hZ2] at hz1;obtain⟨ROW,hR⟩:∃R:Array Value,R = #[]++Z1++Z2:=⟨_,rfl⟩
    have hRl:ROW.toList=Z1.toList++Z2.toList:=by rw[hR];simp
    have hRs:ROW.size=n+1+Z2.size:=by rw[hR];simp[hZ1l]
    rw[show ([]:List Value).toArray = #[] from rfl,<-hR];obtain⟨W,hW⟩:∃W,W=(w.alloc (.cells ROW (Tryz.laysIns_ren.t 9))).drew:=⟨_,rfl⟩
    rw[<-hW];have hWn:W.heap[w.heap.size]? = some (.cells ROW (Tryz.laysIns_ren.t 9) (0,0)):=by rw[hW];exact World.heap_alloc_new w _
    obtain⟨cs1,s1,e1⟩:=x9 [Value.string a] 0 W ROW hWn (by simp;omega);obtain⟨cs2,s2,e2⟩:=x9 L (0+1) (W.setCells w.heap.size 0 [Value.string a]).drew cs1 s1.now (by have:=s1.len;omega);have hgr:Grow w ((W.setCells w.heap.size 0 [Value.string a]).drew.setCells w.heap.size (0+1) L):=by
     have h1:Grow w W:=by rw[hW];exact (Grow.alloc w _).trans (Grow.drew _)
     exact⟨(s2.os.trans s1.os).trans h1.os,(s2.tape.trans s1.tape).trans h1.tape,(s2.output.trans s1.output).trans h1.output,Nat.le_trans h1.size (Nat.le_of_eq (s2.size.trans s1.size).symm),fun k hk=>((s2.block k (by omega)).trans (s1.block k (by omega))).trans (h1.block k hk)⟩
    have e3:cs2.toList=(a::x::r).map Value.string++Z2.toList:=by
     rw[e2,e1,hRl];have hz1t:Z1.toList.length=n+1:=by simpa using hZ1l
     show List.take (0+1) ([Value.string a]++(Z1.toList++Z2.toList).drop (0+1))++(L++List.drop (0+1+L.length) ([Value.string a]++(Z1.toList++Z2.toList).drop (0+1)))=_;have h7:List.drop (0+1+L.length) ([Value.string a]++(Z1.toList++Z2.toList).drop (0+1))=Z2.toList:=by
      have h8:List.drop 1 ([Value.string a]++(Z1.toList++Z2.toList).drop (0+1))=(Z1.toList++Z2.toList).drop 1:=rfl;rw[hLl,show 0+1+n=1+n by omega,<-List.drop_drop,h8,List.drop_drop,List.drop_left' (by omega)]
     rw[h7,hL];simp
    have hsz:((W.setCells w.heap.size 0 [Value.string a]).drew.setCells w.heap.size (0+1) L).heap.size=w.heap.size+1:=(s2.size.trans s1.size).trans (by rw[hW];show (w.heap.push _).size=_;exact Array.size_push _);have:=zOP (hk:=[b]) (l:=a::x::r) (z:=z1) (cap:=G) hfr hgr hsz s2.now (fun F w=>by rw[e3];exact zIJ (hz1 F w)) (by rw[hlen2];exact hGn);rw[hlen2] at this;exact this
end Go.Proofs.YtgonkhaebmfgiaaGreatDoor
