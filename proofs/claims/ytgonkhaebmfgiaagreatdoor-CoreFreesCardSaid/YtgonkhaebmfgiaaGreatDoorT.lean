/- What is the same has the same names free, in the same row. Plain; SameTexts. No condition. -/
import Derived.Test.YtgonkhaebmfgiaaGreatDoorR
import Derived.Test.YtgonkhaebmfgiaaGreatDoorO
set_option linter.unusedSimpArgs false
set_option linter.unusedVariables false
namespace Go.Proofs.YtgonkhaebmfgiaaGreatDoor
open Go Fp
set_option maxRecDepth 10000
set_option maxHeartbeats 4000000
set_option linter.unusedVariables false
theorem zXC {P:ByteArray->Bool} (l:List ByteArray) (h:l.Nodup):zA P [] l=l.filter (fun y => !P y):=by
 have gen:∀(l out:List ByteArray),(out++l).Nodup->zA P out l=out++l.filter (fun y => !P y):=by
  intro l;induction l with
  | nil=>intro out _;simp[zA]
  | cons s l ih =>
   intro out hn;have hs:s∉out:=fun hm=>(List.nodup_append.1 hn).2.2 s hm s List.mem_cons_self rfl;rw[jJ];unfold ins;cases hp:P s with
   | true =>
    rw[if_pos (.inr rfl),List.filter_cons_of_neg (by simp[hp])];refine ih out ?_;have:=List.nodup_append.1 hn;exact List.nodup_append.2 ⟨this.1,(List.nodup_cons.1 this.2.1).2,fun a ha b hb=>this.2.2 a ha b (List.mem_cons_of_mem _ hb)⟩
   | false =>
    rw[if_neg (by simp[hs]),List.filter_cons_of_pos (by simp[hp]),ih (out++[s]) (by simpa using hn)];simp
 exact gen l [] (by simpa using h)
theorem zSS (l m:List ByteArray) (hl:l.length<1000000000) (hm:m.length<1000000000):zC Tryz.prog zDN [.sl (eSs l),.sl (eSs m)] (.sb (decide (l=m))):=by
 obtain⟨r,hr⟩:∃r,r=decide (l=m):=⟨_,rfl⟩
 rw[<-hr];have hrF:¬l=m->r=false:=fun h=>by rw[hr,decide_eq_false h]
 have el:(eSs l).length=l.length:=by simp[eSs]
 have em:(eSs m).length=m.length:=by simp[eSs]
 refine zG ttok mixed Tryz.func44 rfl (by rfl) (Nat.le_of_ble_eq_true rfl) (by kernel_rfl) ?_;refine⟨fun h=>?_,fun h=>?_⟩
 ·have hx:=hrF fun h2=>by subst h2;simp at h
  rw[hx];exact rfl
 have hlm:l.length=m.length:=by rw[el,em] at h;simp at h;omega
 clear h;refine⟨{k:Nat // k<=l.length/\l.take k=m.take k},fun k=>{vs:=[(0,.v (.sl (eSs l))),(1,.v (.sl (eSs m))),(5,sv (k.1:Nat))]},fun k=>l.length-k.1,⟨0,Nat.zero_le _,rfl⟩,⟨⟨rfl,rfl,rfl,trivial⟩,trivial,rfl⟩,?_⟩;rintro⟨k,hk,hkm⟩;refine⟨fun h=>?_,fun h=>?_⟩
 ·have h:k<l.length:=by have h:=of_decide_eq_true h;rw[el] at h;simp only at h;omega
  have h':k<m.length:=by omega
  refine⟨str l[k],by omega,(by show (eSs l)[k]? = _;simp[eSs,List.getElem?_eq_getElem h]),rfl,?_⟩;refine⟨str m[k],by omega,(by show (eSs m)[k]? = _;simp[eSs,List.getElem?_eq_getElem h']),rfl,?_⟩;refine⟨by kernel_rfl,?_⟩;refine⟨fun h2=>?_,fun h2=>?_⟩
  ·have hx:=hrF fun h3=>by subst h3;simp at h2
   rw[hx];exact rfl
  ·have h2:l[k]=m[k]:=by simpa using h2
   refine⟨⟨k+1,h,?_⟩,by simp;omega,⟨rfl,rfl,svc (wrap_succ (k:=k) (by omega)),trivial⟩,trivial,rfl⟩;rw[<-List.take_append_getElem h,<-List.take_append_getElem h',hkm,h2]
 ·have h:k=l.length:=by have h:=of_decide_eq_false h;rw[el] at h;simp only at h;omega
  subst h;have:l=m:=by
   rw[List.take_length,hlm,List.take_length] at hkm;exact hkm
  have hx:r=true:=by rw[hr,decide_eq_true this]
  rw[hx];exact rfl
end Go.Proofs.YtgonkhaebmfgiaaGreatDoor
