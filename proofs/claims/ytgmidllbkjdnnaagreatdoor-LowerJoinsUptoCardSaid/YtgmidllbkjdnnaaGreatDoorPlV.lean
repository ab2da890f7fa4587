/- The reference's names and lists. -/
import Derived.Test.YtgmidllbkjdnnaaGreatDoorPlI
namespace Go.Proofs.YtgmidllbkjdnnaaGreatDoor.W
open Go.Proofs.YtgmidllbkjdnnaaGreatDoor.Flat
set_option linter.unusedVariables false
set_option linter.unusedSimpArgs false
theorem zpT {t : Tab} {n K : Nat} {s : ByteArray} {i : Nat} {c : Int} (hs : strAt s (i : Int) = some c) (hi : i < s.size) :
  zau t n (K+1) s (i:Int)=if signF c (i==0)=true then zau t n K s (IntKind.wrap .i64 ((i:Int)+1))else some (.inl false):=by
 have e0:((i:Int)==0)=(i==0):=nb0 i
 rw[zau,if_pos (by simp;omega),hs]
 dsimp only
 have jt:zac t n s (i:Int) c true=some (.inl (s,(i:Int))):=by rw[zac,if_pos rfl]
 by_cases h1:97≤c
 ·rw[if_pos (by simpa using h1)]
  by_cases h2:c≤122
  ·rw[if_pos (by simpa using h2),jt,if_pos (by simp[signF,h1,h2])]
  ·have h3:¬c≤90:=by omega
   have h4:¬c≤57:=by omega
   have h5:¬c=95:=by omega
   have h5':(c==95)=false:=by simpa using h5
   have h6:(65:Int)≤c:=by omega
   have h7:¬c < 48:=by omega
   have h8:c > 57:=by omega
   rw[if_neg (by simpa using h2),if_pos (by simpa using h6),if_neg (by simpa using h3),if_neg (by simp[signF,h1,h2,h3,h4,h5])]
   rw[zac,h5',if_neg (by simp),e0]
   cases hi0:(i==0)with
   | true=>rw[if_pos rfl]
   | false=>rw[if_neg (by simp),if_neg (by simpa using h7),if_pos (by simpa using h8)]
 ·rw[if_neg (by simpa using h1)]
  by_cases h2:65≤c
  ·rw[if_pos (by simpa using h2)]
   by_cases h3:c≤90
   ·rw[if_pos (by simpa using h3),jt,if_pos (by simp[signF,h2,h3])]
   ·rw[if_neg (by simpa using h3)]
    by_cases h4:c=95
    ·subst h4
     have:zac t n s (i:Int) 95 ((95:Int)==95)=some (.inl (s,(i:Int))):=jt
     rw[this,if_pos (by simp[signF])]
    ·have h5':(c==95)=false:=by simpa using h4
     have h6:¬c≤57:=by omega
     have h7:¬c < 48:=by omega
     have h8:c > 57:=by omega
     rw[if_neg (by simp[signF,h1,h2,h3,h4,h6]),zac,h5',if_neg (by simp),e0]
     cases hi0:(i==0)with
     | true=>rw[if_pos rfl]
     | false=>rw[if_neg (by simp),if_neg (by simpa using h7),if_pos (by simpa using h8)]
  ·rw[if_neg (by simpa using h2)]
   have h4:¬c=95:=by omega
   have h5':(c==95)=false:=by simpa using h4
   rw[zac,h5',if_neg (by simp),e0]
   cases hi0:(i==0)with
   | true=>rw[if_pos rfl,if_neg (by simp[signF,h1,h2,h4])]
   | false=>
    rw[if_neg (by simp)]
    by_cases h6:c < 48
    ·have:¬48≤c:=by omega
     rw[if_pos (by simpa using h6),if_neg (by simp[signF,h1,h2,h4,this])]
    ·have h6':48≤c:=by omega
     rw[if_neg (by simpa using h6)]
     by_cases h7:c≤57
     ·have:¬c > 57:=by omega
      rw[if_neg (by simpa using this),if_pos (by simp[signF,h6',h7])]
     ·have:c > 57:=by omega
      rw[if_pos (by simpa using this),if_neg (by simp[signF,h1,h2,h4,h7])]
theorem znI {t:Tab} {n:Nat} {s:ByteArray} (hl:s.size≤140737488355328):∀(d i K:Nat),i+d=s.size→d < K→(allN (fun j=>signF (zgr s j) (j==0)) d i=true∧∃z,zau t n K s (i:Int)=some (.inr (s,z)))∨(allN (fun j=>signF (zgr s j) (j==0)) d i=false∧zau t n K s (i:Int)=some (.inl false))
 | 0,i,K,hi,hk=>by
  obtain⟨K,rfl⟩:∃j,K=j+1:=⟨K-1,by omega⟩
  exact .inl ⟨rfl,_,by rw[zau,if_neg (by simp;omega)]⟩
 | d+1,i,K,hi,hk=>by
  obtain⟨K,rfl⟩:∃j,K=j+1:=⟨K-1,by omega⟩
  have ih:=znI (t:=t) (n:=n) hl d (i+1) K (by omega) (by omega)
  rw[zpT (byte_at (by omega)) (by omega),allN,wr1 (i:=i) (L:=s.size) (by omega) hl]
  generalize signF (zgr s i) (i==0)=q
  cases q
  ·rw[if_neg (by simp),Bool.false_and]
   exact .inr ⟨rfl,rfl⟩
  ·rw[if_pos rfl,Bool.true_and]
   exact ih
theorem zmw {s:ByteArray} (hl:s.size≤140737488355328):Ev fun n=>(tab n).zb6 s=some (nameF s):=by
 refine Ev.step ((Ev.ge (s.size+1)).mono fun n hn=> ?_)
 rw[zj0]
 rcases znI (t:=tab n) (n:=n) hl s.size 0 n (by omega) (by omega)with ⟨h,z,g⟩ | ⟨h,g⟩
 ·rw[show((0:Nat):Int)=0 from rfl]at g
  obtain⟨z1,z2⟩:=z
  have e1:(decide ((s.size:Int)≤40))=decide (s.size≤40):=by rw[Bool.eq_iff_iff,decide_eq_true_eq,decide_eq_true_eq];omega
  simp only[zb6,g,zex,nameF,h,e1]
  by_cases h0:s.size=0
  ·rw[if_neg (by simp[h0])];simp[h0]
  ·rw[if_pos (by simp;omega)];simp[h0]
 ·rw[show((0:Nat):Int)=0 from rfl]at g
  simp only[zb6,g,nameF,h,Bool.false_and]
def zdu (l:List ByteArray):Bool:=l.all nameF&&decide (l.length≤50)
theorem znJ {t:Tab} {n:Nat} {l:List ByteArray} (H:∀s∈l,t.zb6 s=some (nameF s)) (hl:l.length≤4194304):∀(d i K:Nat),i+d=l.length→d < K→((l.drop i).all nameF=true∧∃z,zbN t n K l (i:Int)=some (.inr (l,z)))∨((l.drop i).all nameF=false∧zbN t n K l (i:Int)=some (.inl false))
 | 0,i,K,hi,hk=>by
  obtain⟨K,rfl⟩:∃j,K=j+1:=⟨K-1,by omega⟩
  exact .inl ⟨by rw[List.drop_of_length_le (by omega)];rfl,_,by rw[zbN,if_neg (by simp;omega)]⟩
 | d+1,i,K,hi,hk=>by
  obtain⟨K,rfl⟩:∃j,K=j+1:=⟨K-1,by omega⟩
  obtain⟨y,y1,y3,y2⟩:=at_ (l:=l) (i:=i) (by omega)
  have ih:=znJ (n:=n) H hl d (i+1) K (by omega) (by omega)
  rw[zbN,if_pos (by simp;omega),if_pos (by simp),Int.toNat_natCast,y1,y2,wr1 (i:=i) (L:=l.length) (by omega) (by omega),List.all_cons]
  simp only[H y y3]
  cases nameF y with
  | true=>rw[if_pos rfl,Bool.true_and];exact ih
  | false=>rw[if_neg (by simp),Bool.false_and];exact .inr ⟨rfl,rfl⟩
theorem zmx {l:List ByteArray} (hs:∀s∈l,s.size≤2097152) (hl:l.length≤2097152):Ev fun n=>(tab n).zbB l=some (zdu l):=by
 have H:Ev fun n=>∀s∈l,(tab n).zb6 s=some (nameF s):=Ev.all _ fun s h=>zmw (by have:=hs s h;omega)
 refine Ev.step ((H.and (Ev.ge (l.length+1))).mono fun n hh=> ?_)
 rw[zi2]
 have e1:(decide ((l.length:Int)≤50))=decide (l.length≤50):=by rw[Bool.eq_iff_iff,decide_eq_true_eq,decide_eq_true_eq];omega
 rcases znJ (n:=n) hh.1 (by omega) l.length 0 n (by omega) (by omega)with ⟨h,z,g⟩ | ⟨h,g⟩
 ·rw[show((0:Nat):Int)=0 from rfl]at g
  rw[List.drop_zero]at h
  obtain⟨z1,z2⟩:=z
  simp only[zbB,g,zdu,h,e1,Bool.true_and]
 ·rw[show((0:Nat):Int)=0 from rfl]at g
  rw[List.drop_zero]at h
  simp only[zbB,g,zdu,h,Bool.false_and]
theorem zp7 {t:Tab} {n:Nat} {l:List Int} (hl:l.length≤4194304):∀(d i K:Nat),i+d=l.length→d < K→(((l.drop i).any fun y=>decide (y < 0))=false∧∃z,zc1 t n K l (i:Int)=some (.inr (l,z)))∨(((l.drop i).any fun y=>decide (y < 0))=true∧zc1 t n K l (i:Int)=some (.inl false))
 | 0,i,K,hi,hk=>by
  obtain⟨K,rfl⟩:∃j,K=j+1:=⟨K-1,by omega⟩
  exact .inl ⟨by rw[List.drop_of_length_le (by omega)];rfl,_,by rw[zc1,if_neg (by simp;omega)]⟩
 | d+1,i,K,hi,hk=>by
  obtain⟨K,rfl⟩:∃j,K=j+1:=⟨K-1,by omega⟩
  obtain⟨y,y1,y3,y2⟩:=at_ (l:=l) (i:=i) (by omega)
  have ih:=zp7 (t:=t) (n:=n) hl d (i+1) K (by omega) (by omega)
  rw[zc1,if_pos (by simp;omega),if_pos (by simp),Int.toNat_natCast,y1,y2,wr1 (i:=i) (L:=l.length) (by omega) (by omega),List.any_cons]
  dsimp only
  by_cases hy:y < 0
  ·rw[if_pos (by simpa using hy),decide_eq_true hy,Bool.true_or];exact .inr ⟨rfl,rfl⟩
  ·rw[if_neg (by simpa using hy),decide_eq_false hy,Bool.false_or];exact ih
theorem zqx {l:List Int} (hl:l.length≤2097152):Ev fun n=>(tab n).zdc l=some (!(l.any fun y=>decide (y < 0))):=by
 refine Ev.step ((Ev.ge (l.length+1)).mono fun n hh=> ?_)
 rw[zkx]
 rcases zp7 (t:=tab n) (n:=n) (l:=l) (by omega) l.length 0 n (by omega) (by omega)with ⟨h,z,g⟩ | ⟨h,g⟩
 ·rw[show((0:Nat):Int)=0 from rfl]at g
  rw[List.drop_zero]at h
  obtain⟨z1,z2⟩:=z
  simp only[zdc,g,h,Bool.not_false]
 ·rw[show((0:Nat):Int)=0 from rfl]at g
  rw[List.drop_zero]at h
  simp only[zdc,g,h,Bool.not_true]
theorem znK {t:Tab} {n:Nat} {l:List ByteArray} {i:Nat} {x:ByteArray} (hx:l[i]?=some x) (hi:i < l.length) (hl:l.length≤4194304):∀(d j K:Nat),j+d=i→d < K→((((l.take i).drop j).any fun y=>x.toList==y.toList)=false∧∃z,zcm t n K l (i:Int) (j:Int)=some (.inr (l,(i:Int),z)))∨((((l.take i).drop j).any fun y=>x.toList==y.toList)=true∧zcm t n K l (i:Int) (j:Int)=some (.inl false))
 | 0,j,K,hj,hk=>by
  obtain⟨K,rfl⟩:∃j,K=j+1:=⟨K-1,by omega⟩
  exact .inl ⟨by rw[List.drop_of_length_le (by rw[List.length_take];omega)];rfl,_,by rw[zcm,if_neg (by simp;omega)]⟩
 | d+1,j,K,hj,hk=>by
  obtain⟨K,rfl⟩:∃j,K=j+1:=⟨K-1,by omega⟩
  obtain⟨y,y1,y3,y2⟩:=at_ (l:=l.take i) (i:=j) (by rw[List.length_take];omega)
  have y0:l[j]?=some y:=by rw[List.getElem?_take]at y1;rwa[if_pos (by omega)]at y1
  have ih:=znK (t:=t) (n:=n) hx hi hl d (j+1) K (by omega) (by omega)
  rw[zcm,if_pos (by simp;omega),if_pos (by simp),Int.toNat_natCast,hx]
  dsimp only
  rw[if_pos (by simp),Int.toNat_natCast,y0,y2,wr1 (i:=j) (L:=l.length) (by omega) (by omega),List.any_cons]
  dsimp only
  generalize (x.toList==y.toList)=q
  cases q
  ·rw[if_neg (by simp),Bool.false_or];exact ih
  ·rw[if_pos rfl,Bool.true_or];exact .inr ⟨rfl,rfl⟩
theorem zpf {t:Tab} {n:Nat} {l:List ByteArray} (hn:l.length < n) (hl:l.length≤4194304):∀(d i K:Nat),i+d=l.length→d < K→(allN (fun j=> !((l.take j).any fun y=>(l.getD j ByteArray.empty).toList==y.toList)) d i=true∧∃z,zcn t n K l (i:Int)=some (.inr (l,z)))∨(allN (fun j=> !((l.take j).any fun y=>(l.getD j ByteArray.empty).toList==y.toList)) d i=false∧zcn t n K l (i:Int)=some (.inl false))
 | 0,i,K,hi,hk=>by
  obtain⟨K,rfl⟩:∃j,K=j+1:=⟨K-1,by omega⟩
  exact .inl ⟨rfl,_,by rw[zcn,if_neg (by simp;omega)]⟩
 | d+1,i,K,hi,hk=>by
  obtain⟨K,rfl⟩:∃j,K=j+1:=⟨K-1,by omega⟩
  obtain⟨x,x1,x3,x2⟩:=at_ (l:=l) (i:=i) (by omega)
  have e0:l.getD i ByteArray.empty=x:=by rw[List.getD_eq_getElem?_getD,x1];rfl
  have ih:=zpf (t:=t) hn hl d (i+1) K (by omega) (by omega)
  rw[allN]
  simp only[e0]
  rw[zcn,if_pos (by simp;omega)]
  rcases znK (t:=t) (n:=n) x1 (by omega) hl i 0 n (by omega) (by omega)with ⟨h,z,g⟩ | ⟨h,g⟩
  ·rw[show((0:Nat):Int)=0 from rfl]at g
   rw[List.drop_zero]at h
   obtain⟨z1,z2⟩:=z
   simp only[g,h,Bool.not_false,Bool.true_and]
   rw[wr1 (i:=i) (L:=l.length) (by omega) (by omega)]
   exact ih
  ·rw[show((0:Nat):Int)=0 from rfl]at g
   rw[List.drop_zero]at h
   simp only[g,h,Bool.not_true,Bool.false_and]
   simp
theorem zpU {l:List ByteArray} (hl:l.length≤2097152):Ev fun n=>(tab n).zdp l=some (!zbg l):=by
 refine Ev.step ((Ev.ge (l.length+1)).mono fun n hh=> ?_)
 rw[zjZ]
 rcases zpf (t:=tab n) (n:=n) (l:=l) (by omega) (by omega) l.length 0 n (by omega) (by omega)with ⟨h,z,g⟩ | ⟨h,g⟩
 ·rw[show((0:Nat):Int)=0 from rfl]at g
  obtain⟨z1,z2⟩:=z
  simp only[zdp,g,zbg,h,Bool.not_true,Bool.not_false]
 ·rw[show((0:Nat):Int)=0 from rfl]at g
  simp only[zdp,g,zbg,h,Bool.not_true,Bool.not_false]
theorem zqN (t:Tab) (n:Nat) (op:Int):zaU t n op=some (nmF op):=by
 rw[zaU]
 have key:∀L:List ByteArray,L=gl0.drop 1→zef t n op L=some (nmF op):=by
  rintro L rfl
  have hl:(gl0.drop 1).length=51:=by kernel_rfl
  rw[zef,hl]
  unfold nmF
  by_cases h1:op < 1
  ·rw[if_pos (by simpa using h1),if_neg (by omega)]
  ·rw[if_neg (by simpa using h1)]
   by_cases h2:op > 51
   ·rw[if_pos (by simp;omega),if_neg (by omega)]
   ·have hw:IntKind.wrap .i64 (op-1)=op-1:=wr (by omega) (by omega)
    rw[if_neg (by simp;omega),if_pos (by omega),zew,hw,if_pos (by simp;omega)]
    have h3 : op.toNat < gl0.length := by
     have : gl0.length = 52 := by kernel_rfl
     omega
    have h4:(op-1).toNat+1=op.toNat:=by omega
    rw[List.getElem?_drop,Nat.add_comm,h4,List.getElem?_eq_getElem h3,List.getD_eq_getElem?_getD,List.getElem?_eq_getElem h3]
    rfl
 exact key _ (by kernel_rfl)
theorem zkm (op:Int):Ev fun n=>(tab n).zaU op=some (nmF op):=Ev.step (Ev.pure fun n=>by rw[zjW,zqN])
theorem zqy {t:Tab} {n:Nat} {b:GBy} {order:Bool} {dp:Int} {R:List GStep→Bool} (hg:t.zb6 (bKey b)=some (nameF (bKey b))) (hR:t.zaT (bT b) (IntKind.wrap .i64 (dp+1))=some (R (bT b))):zeb t n b order dp=some (byF R order b):=by
 cases b with
 | mk k s l d=>
  simp only[bKey,bT]at hg hR
  have e0:((l.length:Int)==0)=(l.length==0):=nb0 _
  have e2:decide (s.size=0)=(s.size==0):=by rw[Bool.eq_iff_iff];simp
  have hj:zel t n dp k s l d=some ((k==2||s.size==0)&&(k==3||l.length==0)&&(k==1||(k==2&&nameF s)||(k==3&&R l))):=by
   rw[zel,ziy,hg,hR,e0,e2]
   by_cases k1:k=1
   ·subst k1
    cases (s.size==0)<;>simp
   ·have q1:(k==1)=false:=by simpa using k1
    by_cases k2:k=2
    ·subst k2
     cases nameF s<;>simp
    ·have q2:(k==2)=false:=by simpa using k2
     by_cases k3:k=3
     ·subst k3
      cases (s.size==0)<;>simp
     ·have q3:(k==3)=false:=by simpa using k3
      simp[q1,q2,q3]
  rw[zeb]
  simp only[hj,byF,bD,bK,bKey,bT]
  cases d<;>cases order<;>simp[Bool.and_assoc]
end Go.Proofs.YtgmidllbkjdnnaaGreatDoor.W
