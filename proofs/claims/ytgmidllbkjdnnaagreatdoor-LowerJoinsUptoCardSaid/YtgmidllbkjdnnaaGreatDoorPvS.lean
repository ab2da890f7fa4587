/- Rows looked through, rows compared. -/
import Derived.Test.YtgmidllbkjdnnaaGreatDoorPvRE
namespace Go.Proofs.YtgmidllbkjdnnaaGreatDoor.W
open Go.Proofs.YtgmidllbkjdnnaaGreatDoor.Flat
set_option linter.unusedVariables false
set_option linter.unusedSimpArgs false
theorem zg0 {t:Tab} {n:Nat} {l:List GStep} {e0:Int} {g:GStep→Bool} (H:∀x∈l,t.zcf x e0=some (g x)) (hl:l.length≤140737488355328):∀(d i K:Nat),i+d=l.length→d < K→((l.drop i).any g=false∧∃z,zQ t n K l e0 (l.length:Int) (i:Int)=some (.inr z))∨((l.drop i).any g=true∧∃j:Nat,zQ t n K l e0 (l.length:Int) (i:Int)=some (.inl (j:Int)))
 | 0,i,K,hi,hk=>by
  obtain⟨K,rfl⟩:∃j,K=j+1:=⟨K-1,by omega⟩
  exact .inl ⟨by rw[List.drop_of_length_le (by omega)];rfl,_,by rw[zQ,if_neg (by simp;omega)]⟩
 | d+1,i,K,hi,hk=>by
  obtain⟨K,rfl⟩:∃j,K=j+1:=⟨K-1,by omega⟩
  obtain⟨x,x1,x3,x2⟩:=at_ (l:=l) (i:=i) (by omega)
  have hx:=H x x3
  have ih:=zg0 (n:=n) H hl d (i+1) K (by omega) (by omega)
  rw[zQ,if_pos (by simp;omega),if_pos (by simp),Int.toNat_natCast,x1,x2,wr1 (i:=i) (L:=l.length) (by omega) hl,List.any_cons]
  generalize g x=q at hx⊢
  clear x1 x2 x3
  obtain⟨x1,x2,x3,⟨x4,x5,x6,x7,x8⟩,⟨x9,xa,xb⟩,xc,xd,xe⟩:=x
  simp only[hx]
  cases q
  ·rw[if_neg (by simp),Bool.false_or]
   exact ih
  ·rw[if_pos rfl,Bool.true_or]
   exact .inr ⟨rfl,i,rfl⟩
theorem zkf {l:List GStep} {e0:Int} {g:GStep→Bool} (H:∀x∈l,Ev fun n=>(tab n).zcf x e0=some (g x)) (hl:l.length≤140737488355328):Ev fun n=>(tab n).zP l e0=some (l.any g):=by
 refine Ev.step (Ev.step (((Ev.all l H).and (Ev.ge (l.length+1))).mono fun n hh=> ?_))
 rw[ze2]
 simp only[zP,zfe,zaj]
 rcases zg0 (n:=n) hh.1 hl l.length 0 n (by omega) (by omega)with ⟨h,z,g⟩ | ⟨h,j,g⟩
 ·rw[show((0:Nat):Int)=0 from rfl]at g
  rw[List.drop_zero]at h
  simp only[g,h]
  rfl
 ·rw[show((0:Nat):Int)=0 from rfl]at g
  rw[List.drop_zero]at h
  simp only[g,h]
  simp
theorem zhn {t:Tab} {n:Nat} {l:List ByteArray} {g:ByteArray→Bool} (H:∀x∈l,t.zdm x=some (g x)) (hl:l.length≤140737488355328):∀(d i K:Nat),i+d=l.length→d < K→((l.drop i).any g=false∧∃z,zU t n K l (l.length:Int) (i:Int)=some (.inr z))∨((l.drop i).any g=true∧∃j:Nat,zU t n K l (l.length:Int) (i:Int)=some (.inl (j:Int)))
 | 0,i,K,hi,hk=>by
  obtain⟨K,rfl⟩:∃j,K=j+1:=⟨K-1,by omega⟩
  exact .inl ⟨by rw[List.drop_of_length_le (by omega)];rfl,_,by rw[zU,if_neg (by simp;omega)]⟩
 | d+1,i,K,hi,hk=>by
  obtain⟨K,rfl⟩:∃j,K=j+1:=⟨K-1,by omega⟩
  obtain⟨x,x1,x3,x2⟩:=at_ (l:=l) (i:=i) (by omega)
  have hx:=H x x3
  have ih:=zhn (n:=n) H hl d (i+1) K (by omega) (by omega)
  rw[zU,if_pos (by simp;omega),if_pos (by simp),Int.toNat_natCast,x1,x2,wr1 (i:=i) (L:=l.length) (by omega) hl,List.any_cons]
  generalize g x=q at hx⊢
  clear x1 x2 x3
  simp only[hx]
  cases q
  ·rw[if_neg (by simp),Bool.false_or]
   exact ih
  ·rw[if_pos rfl,Bool.true_or]
   exact .inr ⟨rfl,i,rfl⟩
theorem zkB {l:List ByteArray} {g:ByteArray→Bool} (H:∀x∈l,Ev fun n=>(tab n).zdm x=some (g x)) (hl:l.length≤140737488355328):Ev fun n=>(tab n).zB l=some (l.any g):=by
 refine Ev.step (Ev.step (((Ev.all l H).and (Ev.ge (l.length+1))).mono fun n hh=> ?_))
 rw[ze6]
 simp only[zB,zfn,zan]
 rcases zhn (n:=n) hh.1 hl l.length 0 n (by omega) (by omega)with ⟨h,z,g⟩ | ⟨h,j,g⟩
 ·rw[show((0:Nat):Int)=0 from rfl]at g
  rw[List.drop_zero]at h
  simp only[g,h]
  rfl
 ·rw[show((0:Nat):Int)=0 from rfl]at g
  rw[List.drop_zero]at h
  simp only[g,h]
  simp
theorem zga {t:Tab} {n:Nat} {l:List Int} {g:Int→Bool} (H:∀x∈l,t.zbA x=some (g x)) (hl:l.length≤140737488355328):∀(d i K:Nat),i+d=l.length→d < K→((l.drop i).any g=false∧∃z,zM t n K l (l.length:Int) (i:Int)=some (.inr z))∨((l.drop i).any g=true∧∃j:Nat,zM t n K l (l.length:Int) (i:Int)=some (.inl (j:Int)))
 | 0,i,K,hi,hk=>by
  obtain⟨K,rfl⟩:∃j,K=j+1:=⟨K-1,by omega⟩
  exact .inl ⟨by rw[List.drop_of_length_le (by omega)];rfl,_,by rw[zM,if_neg (by simp;omega)]⟩
 | d+1,i,K,hi,hk=>by
  obtain⟨K,rfl⟩:∃j,K=j+1:=⟨K-1,by omega⟩
  obtain⟨x,x1,x3,x2⟩:=at_ (l:=l) (i:=i) (by omega)
  have hx:=H x x3
  have ih:=zga (n:=n) H hl d (i+1) K (by omega) (by omega)
  rw[zM,if_pos (by simp;omega),if_pos (by simp),Int.toNat_natCast,x1,x2,wr1 (i:=i) (L:=l.length) (by omega) hl,List.any_cons]
  generalize g x=q at hx⊢
  clear x1 x2 x3
  simp only[hx]
  cases q
  ·rw[if_neg (by simp),Bool.false_or]
   exact ih
  ·rw[if_pos rfl,Bool.true_or]
   exact .inr ⟨rfl,i,rfl⟩
theorem ziz {l:List Int} {g:Int→Bool} (H:∀x∈l,Ev fun n=>(tab n).zbA x=some (g x)) (hl:l.length≤140737488355328):Ev fun n=>(tab n).zK l=some (l.any g):=by
 refine Ev.step (Ev.step (((Ev.all l H).and (Ev.ge (l.length+1))).mono fun n hh=> ?_))
 rw[zeZ]
 simp only[zK,ze7,zad]
 rcases zga (n:=n) hh.1 hl l.length 0 n (by omega) (by omega)with ⟨h,z,g⟩ | ⟨h,j,g⟩
 ·rw[show((0:Nat):Int)=0 from rfl]at g
  rw[List.drop_zero]at h
  simp only[g,h]
  rfl
 ·rw[show((0:Nat):Int)=0 from rfl]at g
  rw[List.drop_zero]at h
  simp only[g,h]
  simp
theorem zg1 {t:Tab} {n:Nat} {l:List ByteArray} {v:ByteArray} (hl:l.length≤140737488355328):∀(d i K:Nat),i+d=l.length→d < K→((l.drop i).any (fun y=>v.toList==y.toList)=false∧∃z,zav t n K l v (l.length:Int) (i:Int)=some (.inr z))∨((l.drop i).any (fun y=>v.toList==y.toList)=true∧∃j:Nat,zav t n K l v (l.length:Int) (i:Int)=some (.inl (j:Int)))
 | 0,i,K,hi,hk=>by
  obtain⟨K,rfl⟩:∃j,K=j+1:=⟨K-1,by omega⟩
  exact .inl ⟨by rw[List.drop_of_length_le (by omega)];rfl,_,by rw[zav,if_neg (by simp;omega)]⟩
 | d+1,i,K,hi,hk=>by
  obtain⟨K,rfl⟩:∃j,K=j+1:=⟨K-1,by omega⟩
  obtain⟨x,x1,x3,x2⟩:=at_ (l:=l) (i:=i) (by omega)
  have ih:=zg1 (t:=t) (n:=n) (v:=v) hl d (i+1) K (by omega) (by omega)
  rw[zav,if_pos (by simp;omega),if_pos (by simp),Int.toNat_natCast,x1,x2,wr1 (i:=i) (L:=l.length) (by omega) hl,List.any_cons]
  dsimp only
  generalize (v.toList==x.toList)=q
  cases q
  ·rw[if_neg (by simp),Bool.false_or]
   exact ih
  ·rw[if_pos rfl,Bool.true_or]
   exact .inr ⟨rfl,i,rfl⟩
theorem zh6 {l:List ByteArray} {v:ByteArray} (hl:l.length≤140737488355328):Ev fun n=>(tab n).slices_Contains_string l v=some (l.any (fun y=>v.toList==y.toList)):=by
 refine Ev.step (Ev.step ((Ev.ge (l.length+1)).mono fun n hh=> ?_))
 rw[zfI]
 simp only[slices_Contains_string,zf9,slices_Index_string]
 rcases zg1 (t:=tab n) (n:=n) (v:=v) hl l.length 0 n (by omega) (by omega)with ⟨h,z,g⟩ | ⟨h,j,g⟩
 ·rw[show((0:Nat):Int)=0 from rfl]at g
  rw[List.drop_zero]at h
  simp only[g,h]
  rfl
 ·rw[show((0:Nat):Int)=0 from rfl]at g
  rw[List.drop_zero]at h
  simp only[g,h]
  simp
end Go.Proofs.YtgmidllbkjdnnaaGreatDoor.W
