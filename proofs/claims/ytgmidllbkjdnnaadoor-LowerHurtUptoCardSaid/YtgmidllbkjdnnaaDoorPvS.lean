/- Rows looked through, rows compared. -/
import Derived.Test.YtgmidllbkjdnnaaDoorPvG
namespace Go.Proofs.YtgmidllbkjdnnaaDoor.W
open Go.Proofs.YtgmidllbkjdnnaaDoor.Flat
set_option linter.unusedVariables false
set_option linter.unusedSimpArgs false
theorem zfV {t:Tab} {n:Nat} {l:List GStep} {e0:Int} {g:GStep→Bool} (H:∀x∈l,t.zby x e0=some (g x)) (hl:l.length≤140737488355328):∀(d i K:Nat),i+d=l.length→d < K→((l.drop i).any g=false∧∃z,zL t n K l e0 (l.length:Int) (i:Int)=some (.inr z))∨((l.drop i).any g=true∧∃j:Nat,zL t n K l e0 (l.length:Int) (i:Int)=some (.inl (j:Int)))
 | 0,i,K,hi,hk=>by
  obtain⟨K,rfl⟩:∃j,K=j+1:=⟨K-1,by omega⟩
  exact .inl ⟨by rw[List.drop_of_length_le (by omega)];rfl,_,by rw[zL,if_neg (by simp;omega)]⟩
 | d+1,i,K,hi,hk=>by
  obtain⟨K,rfl⟩:∃j,K=j+1:=⟨K-1,by omega⟩
  obtain⟨x,x1,x3,x2⟩:=at_ (l:=l) (i:=i) (by omega)
  have hx:=H x x3
  have ih:=zfV (n:=n) H hl d (i+1) K (by omega) (by omega)
  rw[zL,if_pos (by simp;omega),if_pos (by simp),Int.toNat_natCast,x1,x2,wr1 (i:=i) (L:=l.length) (by omega) hl,List.any_cons]
  generalize g x=q at hx⊢
  clear x1 x2 x3
  obtain⟨x1,x2,x3,⟨x4,x5,x6,x7,x8⟩,⟨x9,xa,xb⟩,xc,xd,xe⟩:=x
  simp only[hx]
  cases q
  ·rw[if_neg (by simp),Bool.false_or]
   exact ih
  ·rw[if_pos rfl,Bool.true_or]
   exact .inr ⟨rfl,i,rfl⟩
theorem ziK {l:List GStep} {e0:Int} {g:GStep→Bool} (H:∀x∈l,Ev fun n=>(tab n).zby x e0=some (g x)) (hl:l.length≤140737488355328):Ev fun n=>(tab n).zK l e0=some (l.any g):=by
 refine Ev.step (Ev.step (((Ev.all l H).and (Ev.ge (l.length+1))).mono fun n hh=> ?_))
 rw[zdW]
 simp only[zK,zeb,zaa]
 rcases zfV (n:=n) hh.1 hl l.length 0 n (by omega) (by omega)with ⟨h,z,g⟩ | ⟨h,j,g⟩
 ·rw[show((0:Nat):Int)=0 from rfl]at g
  rw[List.drop_zero]at h
  simp only[g,h]
  rfl
 ·rw[show((0:Nat):Int)=0 from rfl]at g
  rw[List.drop_zero]at h
  simp only[g,h]
  simp
theorem zgc {t:Tab} {n:Nat} {l:List ByteArray} {g:ByteArray→Bool} (H:∀x∈l,t.zcl x=some (g x)) (hl:l.length≤140737488355328):∀(d i K:Nat),i+d=l.length→d < K→((l.drop i).any g=false∧∃z,zQ t n K l (l.length:Int) (i:Int)=some (.inr z))∨((l.drop i).any g=true∧∃j:Nat,zQ t n K l (l.length:Int) (i:Int)=some (.inl (j:Int)))
 | 0,i,K,hi,hk=>by
  obtain⟨K,rfl⟩:∃j,K=j+1:=⟨K-1,by omega⟩
  exact .inl ⟨by rw[List.drop_of_length_le (by omega)];rfl,_,by rw[zQ,if_neg (by simp;omega)]⟩
 | d+1,i,K,hi,hk=>by
  obtain⟨K,rfl⟩:∃j,K=j+1:=⟨K-1,by omega⟩
  obtain⟨x,x1,x3,x2⟩:=at_ (l:=l) (i:=i) (by omega)
  have hx:=H x x3
  have ih:=zgc (n:=n) H hl d (i+1) K (by omega) (by omega)
  rw[zQ,if_pos (by simp;omega),if_pos (by simp),Int.toNat_natCast,x1,x2,wr1 (i:=i) (L:=l.length) (by omega) hl,List.any_cons]
  generalize g x=q at hx⊢
  clear x1 x2 x3
  simp only[hx]
  cases q
  ·rw[if_neg (by simp),Bool.false_or]
   exact ih
  ·rw[if_pos rfl,Bool.true_or]
   exact .inr ⟨rfl,i,rfl⟩
theorem zi8 {l:List ByteArray} {g:ByteArray→Bool} (H:∀x∈l,Ev fun n=>(tab n).zcl x=some (g x)) (hl:l.length≤140737488355328):Ev fun n=>(tab n).zz l=some (l.any g):=by
 refine Ev.step (Ev.step (((Ev.all l H).and (Ev.ge (l.length+1))).mono fun n hh=> ?_))
 rw[zd1]
 simp only[zz,zej,zah]
 rcases zgc (n:=n) hh.1 hl l.length 0 n (by omega) (by omega)with ⟨h,z,g⟩ | ⟨h,j,g⟩
 ·rw[show((0:Nat):Int)=0 from rfl]at g
  rw[List.drop_zero]at h
  simp only[g,h]
  rfl
 ·rw[show((0:Nat):Int)=0 from rfl]at g
  rw[List.drop_zero]at h
  simp only[g,h]
  simp
theorem ze8 {t:Tab} {n:Nat} {l:List Int} {g:Int→Bool} (H:∀x∈l,t.zba x=some (g x)) (hl:l.length≤140737488355328):∀(d i K:Nat),i+d=l.length→d < K→((l.drop i).any g=false∧∃z,zJ t n K l (l.length:Int) (i:Int)=some (.inr z))∨((l.drop i).any g=true∧∃j:Nat,zJ t n K l (l.length:Int) (i:Int)=some (.inl (j:Int)))
 | 0,i,K,hi,hk=>by
  obtain⟨K,rfl⟩:∃j,K=j+1:=⟨K-1,by omega⟩
  exact .inl ⟨by rw[List.drop_of_length_le (by omega)];rfl,_,by rw[zJ,if_neg (by simp;omega)]⟩
 | d+1,i,K,hi,hk=>by
  obtain⟨K,rfl⟩:∃j,K=j+1:=⟨K-1,by omega⟩
  obtain⟨x,x1,x3,x2⟩:=at_ (l:=l) (i:=i) (by omega)
  have hx:=H x x3
  have ih:=ze8 (n:=n) H hl d (i+1) K (by omega) (by omega)
  rw[zJ,if_pos (by simp;omega),if_pos (by simp),Int.toNat_natCast,x1,x2,wr1 (i:=i) (L:=l.length) (by omega) hl,List.any_cons]
  generalize g x=q at hx⊢
  clear x1 x2 x3
  simp only[hx]
  cases q
  ·rw[if_neg (by simp),Bool.false_or]
   exact ih
  ·rw[if_pos rfl,Bool.true_or]
   exact .inr ⟨rfl,i,rfl⟩
theorem zha {l:List Int} {g:Int→Bool} (H:∀x∈l,Ev fun n=>(tab n).zba x=some (g x)) (hl:l.length≤140737488355328):Ev fun n=>(tab n).zH l=some (l.any g):=by
 refine Ev.step (Ev.step (((Ev.all l H).and (Ev.ge (l.length+1))).mono fun n hh=> ?_))
 rw[zdS]
 simp only[zH,zd2,zW]
 rcases ze8 (n:=n) hh.1 hl l.length 0 n (by omega) (by omega)with ⟨h,z,g⟩ | ⟨h,j,g⟩
 ·rw[show((0:Nat):Int)=0 from rfl]at g
  rw[List.drop_zero]at h
  simp only[g,h]
  rfl
 ·rw[show((0:Nat):Int)=0 from rfl]at g
  rw[List.drop_zero]at h
  simp only[g,h]
  simp
theorem zfW {t:Tab} {n:Nat} {l:List ByteArray} {v:ByteArray} (hl:l.length≤140737488355328):∀(d i K:Nat),i+d=l.length→d < K→((l.drop i).any (fun y=>v.toList==y.toList)=false∧∃z,zas t n K l v (l.length:Int) (i:Int)=some (.inr z))∨((l.drop i).any (fun y=>v.toList==y.toList)=true∧∃j:Nat,zas t n K l v (l.length:Int) (i:Int)=some (.inl (j:Int)))
 | 0,i,K,hi,hk=>by
  obtain⟨K,rfl⟩:∃j,K=j+1:=⟨K-1,by omega⟩
  exact .inl ⟨by rw[List.drop_of_length_le (by omega)];rfl,_,by rw[zas,if_neg (by simp;omega)]⟩
 | d+1,i,K,hi,hk=>by
  obtain⟨K,rfl⟩:∃j,K=j+1:=⟨K-1,by omega⟩
  obtain⟨x,x1,x3,x2⟩:=at_ (l:=l) (i:=i) (by omega)
  have ih:=zfW (t:=t) (n:=n) (v:=v) hl d (i+1) K (by omega) (by omega)
  rw[zas,if_pos (by simp;omega),if_pos (by simp),Int.toNat_natCast,x1,x2,wr1 (i:=i) (L:=l.length) (by omega) hl,List.any_cons]
  dsimp only
  generalize (v.toList==x.toList)=q
  cases q
  ·rw[if_neg (by simp),Bool.false_or]
   exact ih
  ·rw[if_pos rfl,Bool.true_or]
   exact .inr ⟨rfl,i,rfl⟩
theorem zgQ {l:List ByteArray} {v:ByteArray} (hl:l.length≤140737488355328):Ev fun n=>(tab n).slices_Contains_string l v=some (l.any (fun y=>v.toList==y.toList)):=by
 refine Ev.step (Ev.step ((Ev.ge (l.length+1)).mono fun n hh=> ?_))
 rw[zeP]
 simp only[slices_Contains_string,ze7,slices_Index_string]
 rcases zfW (t:=tab n) (n:=n) (v:=v) hl l.length 0 n (by omega) (by omega)with ⟨h,z,g⟩ | ⟨h,j,g⟩
 ·rw[show((0:Nat):Int)=0 from rfl]at g
  rw[List.drop_zero]at h
  simp only[g,h]
  rfl
 ·rw[show((0:Nat):Int)=0 from rfl]at g
  rw[List.drop_zero]at h
  simp only[g,h]
  simp
end Go.Proofs.YtgmidllbkjdnnaaDoor.W
