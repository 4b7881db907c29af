/- The maker's lists of names. No condition but that the numbers are such. -/
import Derived.Test.YtdmbahepaglcbaaGreatDoorG
set_option linter.unusedSimpArgs false
set_option linter.unusedVariables false
namespace Go.Proofs.YtdmbahepaglcbaaGreatDoor
open Go Fp
set_option maxRecDepth 10000
set_option maxHeartbeats 8000000
set_option linter.unusedVariables false
open Classical in
noncomputable def nmF (n:Nat):ByteArray:=if h:InR (n:Int) then (zCH h).choose else .empty
theorem zb0 {n:Nat} (h:n<100000):zF Tryz.prog 71 [.lit (.int .i64 (n:Nat))] (str (nmF n)):=by
 have hr:InR (n:Int):=by unfold InR;omega
 unfold nmF;rw[dif_pos hr];exact (zCH hr).choose_spec.2
theorem zb3 {n:Nat} (h:n<100000):nmF n∈nm18:=by
 have hr:InR (n:Int):=by unfold InR;omega
 unfold nmF;rw[dif_pos hr];exact (zCH hr).choose_spec.1
noncomputable def vsF (r:Nat):Nat->List ByteArray
 | 0=>[]
 | k+1=>if nmF (r / 4+k*(1+r % 2))∈vsF r k then vsF r k else vsF r k++[nmF (r / 4+k*(1+r % 2))]
theorem zQ9 (r:Nat):∀k,(vsF r k).Nodup/\(vsF r k).length<=k
 | 0=>⟨List.nodup_nil,Nat.le_refl _⟩
 | k+1=>by
  obtain⟨h1,h2⟩:=zQ9 r k;unfold vsF;split
  ·exact⟨h1,by omega⟩
  ·rename_i h;exact⟨List.nodup_append.2 ⟨h1,by simp,fun a ha b hb e=>by simp at hb;subst hb;subst e;exact h ha⟩,by simp;omega⟩
theorem zWI {r:Nat} (hr:r<1000):∀k,k<=4->∀v∈vsF r k,v∈nm18
 | 0,_=>fun v hv=>absurd hv List.not_mem_nil
 | k+1,hk=>fun v hv=>by
  unfold vsF at hv;split at hv
  ·exact zWI hr k (by omega) v hv
  ·rcases List.mem_append.1 hv with h|h
   ·exact zWI hr k (by omega) v h
   ·rw[List.mem_singleton.1 h];have h1:r % 2<=1:=by omega
    have h2:k*(1+r % 2)<=4*2:=Nat.mul_le_mul (by omega) (by omega);exact zb3 (by omega)
theorem zM8 (l:List Int) (n:Int) (hl:Nums l):∃vs,(vs.Nodup/\∀v∈vs,v∈nm18)/\vs.length<=3*(l.length-(l.drop 1).length)/\∀b,CallsG Tryz.prog (fnv 74) (mkH b l n) [pt b 0] [] fun r o h=>r = .sl (eSs vs)/\o=0/\h=mkH b (l.drop 1) n:=by
 obtain⟨r,hr,hr0,hnext⟩:=zDE l n hl;have h4:=Nat.mod_lt r (show 0<4 by decide);refine⟨vsF r (r % 4),⟨(zQ9 r _).1,zWI hr _ (by omega)⟩,?_,fun b=>?_⟩
 ·have:=(zQ9 r (r % 4)).2;cases l with
  | nil=>rw[hr0 rfl] at this⊢;simpa using this
  | cons i l=>simp;omega
 refine yF (first:=[]) (cap:=[]) ttok mixed Tryz.func74 rfl (by rfl) rfl (Nat.le_of_ble_eq_true rfl) (by kernel_rfl) ?_;refine Wsem.seq ttok mixed ?_;refine Wsem.seq ttok mixed ?_;refine .inr (.inr (.inr (.inr (.inr (.inl ⟨[0],_,[],_,rfl,List.nodup_cons.2 ⟨by simp,List.nodup_nil⟩,rfl,hnext b,?_⟩)))));rintro _ _ _ ⟨rfl,rfl,rfl⟩;refine Wsem.seq ttok mixed ?_;refine Wsem.seq ttok mixed ?_;refine⟨{k:Nat // k<=r % 4},fun k=>{vs:=[(3,sv (r:Nat)),(4,.v (.sl (eSs (vsF r k.1)))),(5,sv (k.1:Nat))],ow:=[(4,0,2)],hp:=mkH b (l.drop 1) n},fun k=>r % 4-k.1,⟨0,Nat.zero_le _⟩,⟨⟨rfl,rfl,rfl,trivial⟩,⟨trivial,trivial⟩,rfl⟩,?_⟩;rintro⟨k,hk⟩;refine⟨by decide,?_⟩;refine⟨fun h=>?_,fun h=>?_⟩
 ·have h:k<r % 4:=by
   have h:=of_decide_eq_true h;have e:((r:Int).tmod 4)=((r % 4:Nat):Int):=rfl;rw[e] at h;simp only at h;omega
  have hm2:=Nat.mod_lt r (show 0<2 by decide);have hd4:=Nat.div_le_self r 4;have hmul:k*(1+r % 2)<=8:=Nat.le_trans (Nat.mul_le_mul (show k<=4 by omega) (show 1+r % 2<=2 by omega)) (by decide);have ev:IntKind.i64.wrap (IntKind.i64.wrap ((r:Int).tdiv 4)+IntKind.i64.wrap ((k:Int)*IntKind.i64.wrap (1+(r:Int).tmod 2)))=((r / 4+k*(1+r % 2):Nat):Int):=by
   have e0:((r:Int).tmod 2)=((r % 2:Nat):Int):=rfl;have e1:IntKind.i64.wrap (1+(r:Int).tmod 2)=((1+r % 2:Nat):Int):=by rw[e0,show (1:Int)+((r % 2:Nat):Int)=((1+r % 2:Nat):Int) by omega];exact yH (by omega)
   have e2:IntKind.i64.wrap ((k:Int)*((1+r % 2:Nat):Int))=((k*(1+r % 2):Nat):Int):=by rw[show (k:Int)*((1+r % 2:Nat):Int)=((k*(1+r % 2):Nat):Int) from (Int.natCast_mul _ _).symm];exact yH (by omega)
   have e3:IntKind.i64.wrap ((r:Int).tdiv 4)=((r / 4:Nat):Int):=by rw[show ((r:Int).tdiv 4)=((r / 4:Nat):Int) by simp];exact yH (by omega)
   rw[e1,e2,e3,show ((r / 4:Nat):Int)+((k*(1+r % 2):Nat):Int)=((r / 4+k*(1+r % 2):Nat):Int) by omega];exact yH (by omega)
  have hcall:zF Tryz.prog 71 [.lit (.int .i64 (IntKind.i64.wrap (IntKind.i64.wrap ((r:Int).tdiv 4)+IntKind.i64.wrap ((k:Int)*IntKind.i64.wrap (1+(r:Int).tmod 2)))))] (str (nmF (r / 4+k*(1+r % 2)))):=by rw[ev];exact zb0 (by omega)
  have hvl:=(zQ9 r k).2;refine⟨by decide,?_⟩;refine⟨by decide,?_⟩;refine .inl ⟨_,hcall,?_⟩;refine .inl ⟨_,wK (l:=vsF r k) (s:=nmF (r / 4+k*(1+r % 2))) (by omega),?_⟩;refine⟨fun h2=>?_,fun h2=>?_⟩
  ·have h2:nmF (r / 4+k*(1+r % 2))∉vsF r k:=fun hm=>by rw[memb_iff.2 hm] at h2;cases h2
   refine⟨by show (eSs (vsF r k)).length+1<=_;simp[eSs];omega,yP _,yP [_],?_⟩;refine⟨⟨k+1,h⟩,by simp;omega,⟨rfl,?_,svc (wrap_succ (k:=k) (by omega)),trivial⟩,⟨rfl,trivial⟩,rfl⟩;show SV.v (.sl (eSs (vsF r k)++[str (nmF (r / 4+k*(1+r % 2)))]))=SV.v (.sl (eSs (vsF r (k+1))));rw[vsF,if_neg h2];simp[eSs]
  ·have h2:nmF (r / 4+k*(1+r % 2))∈vsF r k:=memb_iff.1 (by cases hm:memb (nmF (r / 4+k*(1+r % 2))) (vsF r k) with|true=>rfl|false=>rw[hm] at h2;cases h2);refine⟨⟨k+1,h⟩,by simp;omega,⟨rfl,?_,svc (wrap_succ (k:=k) (by omega)),trivial⟩,⟨rfl,trivial⟩,rfl⟩;show SV.v (.sl (eSs (vsF r k)))=SV.v (.sl (eSs (vsF r (k+1))));rw[vsF,if_pos h2]
 ·have h:k=r % 4:=by
   have h:=of_decide_eq_false h;have e:((r:Int).tmod 4)=((r % 4:Nat):Int):=rfl;rw[e] at h;simp only at h;omega
  subst h;refine Wsem.cut {vs:=[(4,.v (.sl (eSs (vsF r (r % 4)))))],hp:=mkH b (l.drop 1) n} ⟨⟨rfl,trivial⟩,trivial,rfl⟩ ?_;refine Wsem.of ttok mixed ?_;exact⟨rfl,rfl,rfl⟩
end Go.Proofs.YtdmbahepaglcbaaGreatDoor
