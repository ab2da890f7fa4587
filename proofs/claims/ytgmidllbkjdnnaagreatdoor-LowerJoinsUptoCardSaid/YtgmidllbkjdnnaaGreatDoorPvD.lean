/- Rows looked through. -/
import Derived.Test.YtgmidllbkjdnnaaGreatDoorPvC
namespace Go.Proofs.YtgmidllbkjdnnaaGreatDoor.W
open Go.Proofs.YtgmidllbkjdnnaaGreatDoor.Flat
set_option linter.unusedVariables false
set_option linter.unusedSimpArgs false
theorem zgY {t:Tab} {n:Nat} {l:List GPred} {dp:Int} {g:GPred→Bool} (H:∀x∈l,t.zcx x dp=some (g x)) (hl:l.length≤140737488355328):∀(d i K:Nat),i+d=l.length→d < K→((l.drop i).any g=false∧∃z,zS t n K l dp (l.length:Int) (i:Int)=some (.inr z))∨((l.drop i).any g=true∧∃j:Nat,zS t n K l dp (l.length:Int) (i:Int)=some (.inl (j:Int)))
 | 0,i,K,hi,hk=>by
  obtain⟨K,rfl⟩:∃j,K=j+1:=⟨K-1,by omega⟩
  exact .inl ⟨by rw[List.drop_of_length_le (by omega)];rfl,_,by rw[zS,if_neg (by simp;omega)]⟩
 | d+1,i,K,hi,hk=>by
  obtain⟨K,rfl⟩:∃j,K=j+1:=⟨K-1,by omega⟩
  obtain⟨x,x1,x3,x2⟩:=at_ (l:=l) (i:=i) (by omega)
  have hx:=H x x3
  have ih:=zgY (n:=n) H hl d (i+1) K (by omega) (by omega)
  rw[zS,if_pos (by simp;omega),if_pos (by simp),Int.toNat_natCast,x1,x2,wr1 (i:=i) (L:=l.length) (by omega) hl,List.any_cons]
  generalize g x=q at hx⊢
  cases x
  simp only[hx]
  cases q
  ·rw[if_neg (by simp),Bool.false_or]
   exact ih
  ·rw[if_pos rfl,Bool.true_or]
   exact .inr ⟨rfl,i,rfl⟩
theorem zkc {l:List GPred} {dp:Int} {g:GPred→Bool} (H:∀x∈l,Ev fun n=>(tab n).zcx x dp=some (g x)) (hl:l.length≤140737488355328):Ev fun n=>(tab n).zR l dp=some (l.any g):=by
 refine Ev.step (Ev.step (((Ev.all l H).and (Ev.ge (l.length+1))).mono fun n hh=> ?_))
 rw[ze3]
 simp only[zR,zff,zak]
 rcases zgY (n:=n) hh.1 hl l.length 0 n (by omega) (by omega)with ⟨h,z,g⟩ | ⟨h,j,g⟩
 ·rw[show((0:Nat):Int)=0 from rfl]at g
  rw[List.drop_zero]at h
  simp only[g,h]
  rfl
 ·rw[show((0:Nat):Int)=0 from rfl]at g
  rw[List.drop_zero]at h
  simp only[g,h]
  simp
theorem zgZ {t:Tab} {n:Nat} {l:List zh} {g:zh→Bool} (H:∀x∈l,t.zcy x=some (g x)) (hl:l.length≤140737488355328):∀(d i K:Nat),i+d=l.length→d < K→((l.drop i).any g=false∧∃z,zT t n K l (l.length:Int) (i:Int)=some (.inr z))∨((l.drop i).any g=true∧∃j:Nat,zT t n K l (l.length:Int) (i:Int)=some (.inl (j:Int)))
 | 0,i,K,hi,hk=>by
  obtain⟨K,rfl⟩:∃j,K=j+1:=⟨K-1,by omega⟩
  exact .inl ⟨by rw[List.drop_of_length_le (by omega)];rfl,_,by rw[zT,if_neg (by simp;omega)]⟩
 | d+1,i,K,hi,hk=>by
  obtain⟨K,rfl⟩:∃j,K=j+1:=⟨K-1,by omega⟩
  obtain⟨x,x1,x3,x2⟩:=at_ (l:=l) (i:=i) (by omega)
  have hx:=H x x3
  have ih:=zgZ (n:=n) H hl d (i+1) K (by omega) (by omega)
  rw[zT,if_pos (by simp;omega),if_pos (by simp),Int.toNat_natCast,x1,x2,wr1 (i:=i) (L:=l.length) (by omega) hl,List.any_cons]
  generalize g x=q at hx⊢
  cases x
  simp only[hx]
  cases q
  ·rw[if_neg (by simp),Bool.false_or]
   exact ih
  ·rw[if_pos rfl,Bool.true_or]
   exact .inr ⟨rfl,i,rfl⟩
theorem zkd {l:List zh} {g:zh→Bool} (H:∀x∈l,Ev fun n=>(tab n).zcy x=some (g x)) (hl:l.length≤140737488355328):Ev fun n=>(tab n).zY l=some (l.any g):=by
 refine Ev.step (Ev.step (((Ev.all l H).and (Ev.ge (l.length+1))).mono fun n hh=> ?_))
 rw[ze4]
 simp only[zY,zfg,zal]
 rcases zgZ (n:=n) hh.1 hl l.length 0 n (by omega) (by omega)with ⟨h,z,g⟩ | ⟨h,j,g⟩
 ·rw[show((0:Nat):Int)=0 from rfl]at g
  rw[List.drop_zero]at h
  simp only[g,h]
  rfl
 ·rw[show((0:Nat):Int)=0 from rfl]at g
  rw[List.drop_zero]at h
  simp only[g,h]
  simp
end Go.Proofs.YtgmidllbkjdnnaaGreatDoor.W
