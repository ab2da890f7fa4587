/- May a value be, by the reference? -/
import Derived.Test.YtgmidllbkjdnnaaGreatDoorPvRB
namespace Go.Proofs.YtgmidllbkjdnnaaGreatDoor.W
open Go.Proofs.YtgmidllbkjdnnaaGreatDoor.Flat
set_option linter.unusedVariables false
set_option linter.unusedSimpArgs false
theorem zoo (t:Tab) (N:Nat) (k n:Int) (s:ByteArray) (l m:List zh):zdw t N (.mk k n s l m)=some (flds k n s.size l.length m.length):=by
 simp only[zdw,zbd,zcA,ziy,flds,nb0,nbb,nle]
 generalize l.length=a
 generalize m.length=b
 generalize s.size=z
 by_cases h1:k=1
 ·subst h1
  by_cases e1:n=0<;>by_cases e2:n=1<;>by_cases e3:z=0<;>by_cases e4:a=0<;>by_cases e5:b=0<;>simp[e1,e2,e3,e4,e5]
 by_cases h2:k=2
 ·subst h2
  by_cases e3:z=0<;>by_cases e4:a=0<;>by_cases e5:b=0<;>simp[e3,e4,e5]
 by_cases h3:k=3
 ·subst h3
  by_cases e1:n=0<;>by_cases e3:z≤1000<;>by_cases e4:a=0<;>by_cases e5:b=0<;>simp[e1,e3,e4,e5]
 by_cases h4:k=4
 ·subst h4
  by_cases e1:0≤n<;>by_cases e3:z=0<;>by_cases e4:a=0<;>by_cases e5:b=0<;>simp[e1,e3,e4,e5]
 by_cases h5:k=5
 ·subst h5
  by_cases e1:0≤n<;>by_cases e3:z=0<;>by_cases e4:a=0<;>by_cases e5:b=0<;>simp[e1,e3,e4,e5]
 by_cases h6:k=6
 ·subst h6
  by_cases e1:n=0<;>by_cases e3:z=0<;>by_cases e4:a≤1000<;>by_cases e5:b=0<;>simp[e1,e3,e4,e5]
 by_cases h8:k=8
 ·subst h8
  by_cases e1:n=0<;>by_cases e3:z=0<;>by_cases e4:a≤1000<;>by_cases e5:b=0<;>simp[e1,e3,e4,e5]
 by_cases h7:k=7
 ·subst h7
  by_cases e1:n=0<;>by_cases e3:z=0<;>by_cases e4:a≤1000<;>by_cases e5:b=a<;>simp[e1,e3,e4,e5]
 simp[h1,h2,h3,h4,h5,h6,h7,h8]
theorem rl2 {t:Tab} {n:Nat} {dp k nn:Int} {s:ByteArray} {l m:List zh} {P:zh→Bool} (H:∀x∈l,t.za7 x (IntKind.wrap .i64 (dp+1))=some (P x)) (C:∀x∈l,∀y∈l,t.zeB x y=some (cmp x y)) (hl:l.length≤1759218604391):∀(d i K:Nat),i+d=l.length→d < K→(allN (okL k P l) d i=true∧∃z1 z2,zaV t n K dp (i:Int) k nn s l m=some (.inr (dp,z1,z2,k,nn,s,l,m)))∨(allN (okL k P l) d i=false∧zaV t n K dp (i:Int) k nn s l m=some (.inl false))
 | 0,i,K,hi,hk=>by
  obtain⟨K,rfl⟩:∃j,K=j+1:=⟨K-1,by omega⟩
  exact .inl ⟨rfl,_,_,by rw[zaV,if_neg (by simp;omega)]⟩
 | d+1,i,K,hi,hk=>by
  obtain⟨K,rfl⟩:∃j,K=j+1:=⟨K-1,by omega⟩
  obtain⟨x,x1,x3,_⟩:=at_ (l:=l) (i:=i) (by omega)
  have hx:=H x x3
  have ih:=rl2 (n:=n) (k:=k) (nn:=nn) (s:=s) (m:=m) H C hl d (i+1) K (by omega) (by omega)
  rw[zaV,if_pos (by simp;omega),if_pos (by simp),Int.toNat_natCast,x1,wr1 (i:=i) (L:=l.length) (by omega) (by omega),allN,okL,znr x1]
  by_cases hi0:i=0
  ·subst hi0
   generalize P x=p at hx⊢
   cases x
   simp only[hx]
   cases p
   ·exact .inr ⟨by simp,by simp⟩
   ·by_cases hk7:k=7
    ·rw[if_pos rfl,if_pos (by simpa using hk7),if_neg (by simp)]
     simpa using ih
    ·rw[if_pos rfl,if_neg (by simpa using hk7)]
     simpa using ih
  ·obtain⟨y,y1,y3,_⟩:=at_ (l:=l) (i:=i-1) (by omega)
   have hy:=C y y3 x x3
   rw[znr y1]
   have e1:IntKind.wrap .i64 ((i:Int)-1)=((i-1:Nat):Int):=by rw[wr (by omega) (by omega)];omega
   rw[e1,Int.toNat_natCast,y1]
   generalize P x=p at hx⊢
   generalize cmp y x=c at hy⊢
   cases x
   cases y
   simp only[hx,hy]
   cases p
   ·exact .inr ⟨by simp,by simp⟩
   ·by_cases hk7:k=7
    ·rw[if_pos rfl,if_pos (by simpa using hk7),if_pos (by simp;omega),if_pos (by simp)]
     by_cases hc:c=-1
     ·rw[if_neg (by simpa using hc)]
      simpa [hc] using ih
     ·rw[if_pos (by simpa using hc)]
      exact .inr ⟨by simp[hc,hi0,hk7],rfl⟩
    ·rw[if_pos rfl,if_neg (by simpa using hk7)]
     simpa [hk7] using ih
theorem rl4 {t:Tab} {n:Nat} {dp k nn:Int} {s:ByteArray} {l m:List zh} {P:zh→Bool} (H:∀x∈m,t.za7 x (IntKind.wrap .i64 (dp+1))=some (P x)) (hl:m.length≤1759218604391):∀(d i K:Nat),i+d=m.length→d < K→((m.drop i).all P=true∧∃z,zbP t n K dp (i:Int) k nn s l m=some (.inr z))∨((m.drop i).all P=false∧zbP t n K dp (i:Int) k nn s l m=some (.inl false))
 | 0,i,K,hi,hk=>by
  obtain⟨K,rfl⟩:∃j,K=j+1:=⟨K-1,by omega⟩
  exact .inl ⟨by rw[List.drop_of_length_le (by omega)];rfl,_,by rw[zbP,if_neg (by simp;omega)]⟩
 | d+1,i,K,hi,hk=>by
  obtain⟨K,rfl⟩:∃j,K=j+1:=⟨K-1,by omega⟩
  obtain⟨x,x1,x3,x2⟩:=at_ (l:=m) (i:=i) (by omega)
  have hx:=H x x3
  have ih:=rl4 (n:=n) (k:=k) (nn:=nn) (s:=s) (l:=l) H hl d (i+1) K (by omega) (by omega)
  rw[zbP,if_pos (by simp;omega),if_pos (by simp),Int.toNat_natCast,x1,x2,wr1 (i:=i) (L:=m.length) (by omega) (by omega),List.all_cons]
  generalize P x=p at hx⊢
  cases x
  simp only[hx]
  cases p
  ·exact .inr ⟨by simp,by simp⟩
  ·simpa using ih
theorem zfW:∀(f:Nat),f≤12→∀a,VIn a→Ev fun n=>(tab n).za7 a (13-(f:Int))=some (zeG f a)
 | 0,hf,.mk k nn s l m,_=>Ev.step (Ev.pure fun n=>by rw[zgB,za7,if_pos (by simp)];rfl)
 | f+1,hf,.mk k nn s l m,.mk hs hl hm al am=>by
  have ed:IntKind.wrap .i64 ((13-((f+1:Nat):Int))+1)=13-(f:Int):=by
   rw[wr (by omega) (by omega)]
   omega
  have hd:¬(13-((f+1:Nat):Int)) > 12:=by omega
  generalize (13-((f+1:Nat):Int))=dp at ed hd⊢
  have r1:=Ev.all l fun x hx=>zfW f (by omega) x (al x hx)
  have r2:=Ev.all m fun x hx=>zfW f (by omega) x (am x hx)
  have r3:=Ev.all2 l l fun x hx y hy=>zon (al x hx) (al y hy)
  have r4:Ev fun n=>(tab n).zdw (.mk k nn s l m)=some (flds k nn s.size l.length m.length):=Ev.step (Ev.pure fun n=>zoo (tab n) n k nn s l m)
  refine Ev.step (((r1.and r2).and (r3.and (r4.and (Ev.ge (l.length+m.length+1))))).mono fun n hh=> ?_)
  obtain⟨⟨h1,h2⟩,h3,h4,h5⟩:=hh
  rw[←ed]at h1 h2
  rw[zgB,za7,if_neg (by simpa using hd)]
  simp only[h4,zeG]
  cases hfl:flds k nn s.size l.length m.length
  ·simp
  ·simp only[if_pos,zen,Bool.true_and]
   have a1:=rl2 (n:=n) (k:=k) (nn:=nn) (s:=s) (m:=m) (P:=zeG f) h1 h3 hl l.length 0 n (by omega) (by omega)
   have a2:=rl4 (n:=n) (k:=k) (nn:=nn) (s:=s) (l:=l) (P:=zeG f) h2 hm m.length 0 n (by omega) (by omega)
   rw[show((0:Nat):Int)=0 from rfl]at a1 a2
   rw[List.drop_zero]at a2
   rcases a1 with ⟨b1,z1,z2,b2⟩ | ⟨b1,b2⟩
   ·simp only[b1,b2,zem]
    rcases a2 with ⟨c1,z3,c2⟩ | ⟨c1,c2⟩
    ·simp only[c1,c2,Bool.true_and]
    ·simp only[c1,c2,Bool.true_and]
   ·simp only[b1,b2,Bool.false_and]
theorem ziT {a:zh} (ha:VIn a):Ev fun n=>(tab n).zce a=some (if okV a then 0 else 2):=
 Ev.step ((zfW 12 (by omega) a ha).mono fun n h=>by
  cases a
  have h:(tab n).za7 _ 1=_:=h
  rw[zi3,zce,h,okV]
  cases zeG 12 _<;>rfl)
end Go.Proofs.YtgmidllbkjdnnaaGreatDoor.W
