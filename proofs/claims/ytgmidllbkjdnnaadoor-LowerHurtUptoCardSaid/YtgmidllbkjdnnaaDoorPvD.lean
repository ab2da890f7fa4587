/- Rows looked through. -/
import Derived.Test.YtgmidllbkjdnnaaDoorPvC
namespace Go.Proofs.YtgmidllbkjdnnaaDoor.W
open Go.Proofs.YtgmidllbkjdnnaaDoor.Flat
set_option linter.unusedVariables false
set_option linter.unusedSimpArgs false
theorem zfT {t:Tab} {n:Nat} {l:List GPred} {dp:Int} {g:GPred→Bool} (H:∀x∈l,t.zbP x dp=some (g x)) (hl:l.length≤140737488355328):∀(d i K:Nat),i+d=l.length→d < K→((l.drop i).any g=false∧∃z,zN t n K l dp (l.length:Int) (i:Int)=some (.inr z))∨((l.drop i).any g=true∧∃j:Nat,zN t n K l dp (l.length:Int) (i:Int)=some (.inl (j:Int)))
 | 0,i,K,hi,hk=>by
  obtain⟨K,rfl⟩:∃j,K=j+1:=⟨K-1,by omega⟩
  exact .inl ⟨by rw[List.drop_of_length_le (by omega)];rfl,_,by rw[zN,if_neg (by simp;omega)]⟩
 | d+1,i,K,hi,hk=>by
  obtain⟨K,rfl⟩:∃j,K=j+1:=⟨K-1,by omega⟩
  obtain⟨x,x1,x3,x2⟩:=at_ (l:=l) (i:=i) (by omega)
  have hx:=H x x3
  have ih:=zfT (n:=n) H hl d (i+1) K (by omega) (by omega)
  rw[zN,if_pos (by simp;omega),if_pos (by simp),Int.toNat_natCast,x1,x2,wr1 (i:=i) (L:=l.length) (by omega) hl,List.any_cons]
  generalize g x=q at hx⊢
  cases x
  simp only[hx]
  cases q
  ·rw[if_neg (by simp),Bool.false_or]
   exact ih
  ·rw[if_pos rfl,Bool.true_or]
   exact .inr ⟨rfl,i,rfl⟩
theorem ziI {l:List GPred} {dp:Int} {g:GPred→Bool} (H:∀x∈l,Ev fun n=>(tab n).zbP x dp=some (g x)) (hl:l.length≤140737488355328):Ev fun n=>(tab n).zM l dp=some (l.any g):=by
 refine Ev.step (Ev.step (((Ev.all l H).and (Ev.ge (l.length+1))).mono fun n hh=> ?_))
 rw[zdX]
 simp only[zM,zec,zab]
 rcases zfT (n:=n) hh.1 hl l.length 0 n (by omega) (by omega)with ⟨h,z,g⟩ | ⟨h,j,g⟩
 ·rw[show((0:Nat):Int)=0 from rfl]at g
  rw[List.drop_zero]at h
  simp only[g,h]
  rfl
 ·rw[show((0:Nat):Int)=0 from rfl]at g
  rw[List.drop_zero]at h
  simp only[g,h]
  simp
theorem zfU {t:Tab} {n:Nat} {l:List zh} {g:zh→Bool} (H:∀x∈l,t.zbQ x=some (g x)) (hl:l.length≤140737488355328):∀(d i K:Nat),i+d=l.length→d < K→((l.drop i).any g=false∧∃z,zO t n K l (l.length:Int) (i:Int)=some (.inr z))∨((l.drop i).any g=true∧∃j:Nat,zO t n K l (l.length:Int) (i:Int)=some (.inl (j:Int)))
 | 0,i,K,hi,hk=>by
  obtain⟨K,rfl⟩:∃j,K=j+1:=⟨K-1,by omega⟩
  exact .inl ⟨by rw[List.drop_of_length_le (by omega)];rfl,_,by rw[zO,if_neg (by simp;omega)]⟩
 | d+1,i,K,hi,hk=>by
  obtain⟨K,rfl⟩:∃j,K=j+1:=⟨K-1,by omega⟩
  obtain⟨x,x1,x3,x2⟩:=at_ (l:=l) (i:=i) (by omega)
  have hx:=H x x3
  have ih:=zfU (n:=n) H hl d (i+1) K (by omega) (by omega)
  rw[zO,if_pos (by simp;omega),if_pos (by simp),Int.toNat_natCast,x1,x2,wr1 (i:=i) (L:=l.length) (by omega) hl,List.any_cons]
  generalize g x=q at hx⊢
  cases x
  simp only[hx]
  cases q
  ·rw[if_neg (by simp),Bool.false_or]
   exact ih
  ·rw[if_pos rfl,Bool.true_or]
   exact .inr ⟨rfl,i,rfl⟩
theorem ziJ {l:List zh} {g:zh→Bool} (H:∀x∈l,Ev fun n=>(tab n).zbQ x=some (g x)) (hl:l.length≤140737488355328):Ev fun n=>(tab n).zS l=some (l.any g):=by
 refine Ev.step (Ev.step (((Ev.all l H).and (Ev.ge (l.length+1))).mono fun n hh=> ?_))
 rw[zdY]
 simp only[zS,zed,zac]
 rcases zfU (n:=n) hh.1 hl l.length 0 n (by omega) (by omega)with ⟨h,z,g⟩ | ⟨h,j,g⟩
 ·rw[show((0:Nat):Int)=0 from rfl]at g
  rw[List.drop_zero]at h
  simp only[g,h]
  rfl
 ·rw[show((0:Nat):Int)=0 from rfl]at g
  rw[List.drop_zero]at h
  simp only[g,h]
  simp
end Go.Proofs.YtgmidllbkjdnnaaDoor.W
