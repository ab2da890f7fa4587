/- Are two programs the same: the reference's. -/
import Derived.Test.YtgmidllbkjdnnaaDoorLsA
namespace Go.Proofs.YtgmidllbkjdnnaaDoor.W
open Go.Proofs.YtgmidllbkjdnnaaDoor.Flat
set_option linter.unusedVariables false
set_option linter.unusedSimpArgs false
theorem zim {t : Tab} {n : Nat} {a b : List ByteArray} (hq : a.length = b.length) (hl : a.length ≤ 4194304) : ∀ (d i K : Nat), i + d = a.length → d < K → (eqL (fun x y => x.toList == y.toList) (a.drop i) (b.drop i) = true ∧ ∃ z, zbv t n K a b (i : Int) = some (.inr z)) ∨ (eqL (fun x y => x.toList == y.toList) (a.drop i) (b.drop i) = false ∧ zbv t n K a b (i : Int) = some (.inl false))
  | 0,i,K,hi,hk=>by
    obtain⟨K,rfl⟩:∃j,K=j+1:=⟨K-1,by omega⟩
    exact .inl ⟨by rw[List.drop_of_length_le (by omega),List.drop_of_length_le (by omega)];rfl,_,by rw[zbv,if_neg (by simp;omega)]⟩
  | d+1,i,K,hi,hk=>by
    obtain⟨K,rfl⟩:∃j,K=j+1:=⟨K-1,by omega⟩
    obtain⟨x,x1,x3,x2⟩:=at_ (l:=a) (i:=i) (by omega)
    obtain⟨y,y1,y3,y2⟩:=at_ (l:=b) (i:=i) (by omega)
    have ih:=zim (t:=t) (n:=n) hq hl d (i+1) K (by omega) (by omega)
    rw[zbv,if_pos (by simp;omega),if_pos (by simp),Int.toNat_natCast,x1,y1,x2,y2,wr1 (i:=i) (L:=a.length) (by omega) (by omega),eqL]
    dsimp only
    generalize (x.toList==y.toList)=q
    cases q
    · rw[if_neg (by simp),Bool.false_and];exact .inr ⟨rfl,rfl⟩
    · rw[if_pos rfl,Bool.true_and];exact ih
theorem zin {a b:List ByteArray} (hl:a.length≤4194304):Ev fun n=>(tab n).zb9 a b=some (eqL (fun x y=>x.toList==y.toList) a b):=by
  refine Ev.step (((Ev.ge (a.length+1))).mono fun n hh=> ?_)
  rw[zir,zb9]
  by_cases hq:a.length=b.length
  · rw[if_neg (by simp;omega)]
    rcases zim (t:=tab n) (n:=n) (a:=a) (b:=b) hq hl a.length 0 n (by omega) (by omega)with ⟨h,z,g⟩ | ⟨h,g⟩
    · rw[show((0:Nat):Int)=0 from rfl]at g
      rw[List.drop_zero,List.drop_zero]at h
      simp only[g,h]
    · rw[show((0:Nat):Int)=0 from rfl]at g
      rw[List.drop_zero,List.drop_zero]at h
      simp only[g,h]
  · rw[if_pos (by simp;omega),zdB hq]
theorem zkq {t : Tab} {n : Nat} {a b : List Int} (hq : a.length = b.length) (hl : a.length ≤ 4194304) : ∀ (d i K : Nat), i + d = a.length → d < K → (eqL (fun x y => x == y) (a.drop i) (b.drop i) = true ∧ ∃ z, zaP t n K a b (i : Int) = some (.inr z)) ∨ (eqL (fun x y => x == y) (a.drop i) (b.drop i) = false ∧ zaP t n K a b (i : Int) = some (.inl false))
  | 0,i,K,hi,hk=>by
    obtain⟨K,rfl⟩:∃j,K=j+1:=⟨K-1,by omega⟩
    exact .inl ⟨by rw[List.drop_of_length_le (by omega),List.drop_of_length_le (by omega)];rfl,_,by rw[zaP,if_neg (by simp;omega)]⟩
  | d+1,i,K,hi,hk=>by
    obtain⟨K,rfl⟩:∃j,K=j+1:=⟨K-1,by omega⟩
    obtain⟨x,x1,x3,x2⟩:=at_ (l:=a) (i:=i) (by omega)
    obtain⟨y,y1,y3,y2⟩:=at_ (l:=b) (i:=i) (by omega)
    have ih:=zkq (t:=t) (n:=n) hq hl d (i+1) K (by omega) (by omega)
    rw[zaP,if_pos (by simp;omega),if_pos (by simp),Int.toNat_natCast,x1,y1,x2,y2,wr1 (i:=i) (L:=a.length) (by omega) (by omega),eqL]
    dsimp only
    rw[bne]
    generalize (x==y)=q
    cases q
    · rw[if_pos (by simp),Bool.false_and];exact .inr ⟨rfl,rfl⟩
    · rw[if_neg (by simp),Bool.true_and];exact ih
theorem zkr {a b:List Int} (hl:a.length≤4194304):Ev fun n=>(tab n).za2 a b=some (eqL (fun x y=>x==y) a b):=by
  refine Ev.step (((Ev.ge (a.length+1))).mono fun n hh=> ?_)
  rw[zgT,za2]
  by_cases hq:a.length=b.length
  · rw[if_neg (by simp;omega)]
    rcases zkq (t:=tab n) (n:=n) (a:=a) (b:=b) hq hl a.length 0 n (by omega) (by omega)with ⟨h,z,g⟩ | ⟨h,g⟩
    · rw[show((0:Nat):Int)=0 from rfl]at g
      rw[List.drop_zero,List.drop_zero]at h
      simp only[g,h]
    · rw[show((0:Nat):Int)=0 from rfl]at g
      rw[List.drop_zero,List.drop_zero]at h
      simp only[g,h]
  · rw[if_pos (by simp;omega),zdB hq]
section
variable {t:Tab} {n:Nat} {a b:List (List GCode)}
theorem zoX {c c' : GCode} {i k : Int} (hq : (cBy c).length = (cBy c').length) (hl : (cBy c).length ≤ 4194304) : ∀ (d j K : Nat), j + d = (cBy c).length → d < K → (eqL sameK ((cBy c).drop j) ((cBy c').drop j) = true ∧ ∃ z1 z2, zbW t n K i k (j : Int) (.mk a) (.mk b) c c' = some (.inr (i, k, z1, z2, .mk a, .mk b, c, c'))) ∨ (eqL sameK ((cBy c).drop j) ((cBy c').drop j) = false ∧ zbW t n K i k (j : Int) (.mk a) (.mk b) c c' = some (.inl false))
  | 0,j,K,hj,hK=>by
    obtain⟨K,rfl⟩:∃j,K=j+1:=⟨K-1,by omega⟩
    refine .inl ⟨by rw[List.drop_of_length_le (by omega),List.drop_of_length_le (by omega)];rfl, ?_⟩
    obtain⟨x1,x2,x3,⟨x4,x5,x6,x7,x8⟩,⟨x9,xa,xb⟩,xc,xd,xe⟩:=c
    obtain⟨y1,y2,y3,⟨y4,y5,y6,y7,y8⟩,⟨y9,ya,yb⟩,yc,yd,ye⟩:=c'
    simp only[cBy]at hj
    exact⟨_,_,by rw[zbW,if_neg (by simp;omega)]⟩
  | d+1,j,K,hj,hK=>by
    obtain⟨K,rfl⟩:∃j,K=j+1:=⟨K-1,by omega⟩
    obtain⟨u,u1,u3,u2⟩:=at_ (l:=cBy c) (i:=j) (by omega)
    obtain⟨v,v1,v3,v2⟩:=at_ (l:=cBy c') (i:=j) (by omega)
    have ih:=zoX (i:=i) (k:=k) hq hl d (j+1) K (by omega) (by omega)
    have hw:=wr1 (i:=j) (L:=(cBy c).length) (by omega) (by omega)
    rw[u2,v2,eqL]
    clear u2 v2 u3 v3
    obtain⟨x1,x2,x3,⟨x4,x5,x6,x7,x8⟩,⟨x9,xa,xb⟩,xc,xd,xe⟩:=c
    obtain⟨y1,y2,y3,⟨y4,y5,y6,y7,y8⟩,⟨y9,ya,yb⟩,yc,yd,ye⟩:=c'
    simp only[cBy]at *
    rw[zbW,if_pos (by simp;omega),if_pos (by simp),Int.toNat_natCast,u1,v1,hw]
    cases u
    cases v
    simp only[sameK]
    generalize (_&&(_&&(_&&(_&&true))))=q
    cases q
    · rw[if_neg (by simp),Bool.false_and];exact .inr ⟨rfl,rfl⟩
    · rw[if_pos rfl,Bool.true_and];exact ih
def cS : GCode → List ByteArray
  | .mk _ s _ _ _ _ _ _=>s
def cN : GCode → List Int
  | .mk _ _ n _ _ _ _ _=>n
def cV : GCode → zh
  | .mk _ _ _ v _ _ _ _=>v
def cP : GCode → GPred
  | .mk _ _ _ _ p _ _ _=>p
def cAs : GCode → List ByteArray
  | .mk _ _ _ _ _ _ _ a=>a
def RefAt (t:Tab) (n:Nat) (c c':GCode):Prop:=
  t.zb9 (cS c) (cS c')=some (eqL (fun x y=>x.toList==y.toList) (cS c) (cS c'))∧t.zb9 (cAs c) (cAs c')=some (eqL (fun x y=>x.toList==y.toList) (cAs c) (cAs c'))∧t.za2 (cN c) (cN c')=some (eqL (fun x y=>x==y) (cN c) (cN c'))∧t.za2 (cKids c) (cKids c')=some (eqL (fun x y=>x==y) (cKids c) (cKids c'))∧t.zb0 (cV c) (cV c')=some (cmp (cV c) (cV c')==0)∧t.zbI (cP c) (cP c')=some (sameP 2097152 (cP c) (cP c'))∧(cBy c).length < n∧(cBy c).length≤4194304
theorem zoY {r r' : List GCode} {i : Nat} (ha : a[i]? = some r) (hb : b[i]? = some r') (H : ∀ c ∈ r, ∀ c' ∈ r', RefAt t n c c') (hq : r.length = r'.length) (hl : r.length ≤ 4194304) : ∀ (d j K : Nat), j + d = r.length → d < K → (eqL sameC (r.drop j) (r'.drop j) = true ∧ ∃ z1 z2, zbX t n K (i : Int) (j : Int) (.mk a) (.mk b) = some (.inr ((i : Int), z1, z2, .mk a, .mk b))) ∨ (eqL sameC (r.drop j) (r'.drop j) = false ∧ zbX t n K (i : Int) (j : Int) (.mk a) (.mk b) = some (.inl false))
  | 0,j,K,hj,hK=>by
    obtain⟨K,rfl⟩:∃j,K=j+1:=⟨K-1,by omega⟩
    refine .inl ⟨by rw[List.drop_of_length_le (by omega),List.drop_of_length_le (by omega)];rfl, ?_⟩
    exact⟨_,_,by rw[zbX,if_pos (by simp),Int.toNat_natCast,ha];dsimp only;rw[if_neg (by simp;omega)]⟩
  | d+1,j,K,hj,hK=>by
    obtain⟨K,rfl⟩:∃j,K=j+1:=⟨K-1,by omega⟩
    obtain⟨c,u1,u3,u2⟩:=at_ (l:=r) (i:=j) (by omega)
    obtain⟨c',v1,v3,v2⟩:=at_ (l:=r') (i:=j) (by omega)
    obtain⟨h1,h2,h3,h4,h5,h6,h7,h8⟩:=H c u3 c' v3
    have ih:=zoY ha hb H hq hl d (j+1) K (by omega) (by omega)
    have hw:=wr1 (i:=j) (L:=r.length) (by omega) (by omega)
    have k4:(cBy c).length=(cBy c').length→_:=fun q=>zoX (t:=t) (n:=n) (a:=a) (b:=b) (i:=(i:Int)) (k:=(j:Int)) q h8 (cBy c).length 0 n (by omega) h7
    rw[show((0:Nat):Int)=0 from rfl,List.drop_zero,List.drop_zero]at k4
    have hlen:(cBy c).length≠(cBy c').length→eqL sameK (cBy c) (cBy c')=false:=fun q=>zdB q
    rw[u2,v2,eqL,zbX,if_pos (by simp),Int.toNat_natCast,ha]
    dsimp only
    rw[if_pos (by simp;omega),if_pos (by simp),Int.toNat_natCast,u1]
    clear u1 u2 u3 v2 v3 H
    obtain⟨x1,x2,x3,⟨x4,x5,x6,x7,x8⟩,⟨x9,xa,xb⟩,xc,xd,xe⟩:=c
    obtain⟨y1,y2,y3,⟨y4,y5,y6,y7,y8⟩,⟨y9,ya,yb⟩,yc,yd,ye⟩:=c'
    simp only[cS,cAs,cN,cKids,cV,cP,cBy]at h1 h2 h3 h4 h5 h6 h7 h8 k4 hlen
    simp only[hb,v1,h1,h2,h3,h4,h5,h6,sameC]
    rw[show(x1 !=y1)= !(x1==y1) from rfl]
    generalize (x1==y1)=c1
    generalize eqL (fun x y=>x.toList==y.toList) x2 y2=c2
    generalize eqL (fun x y=>x.toList==y.toList) xe ye=c4
    generalize eqL (fun x y=>x==y) x3 y3=c3
    generalize eqL (fun x y=>x==y) xc yc=c7
    generalize (cmp (zh.mk x4 x5 x6 x7 x8) (zh.mk y4 y5 y6 y7 y8)==0)=c5
    generalize sameP 2097152 (GPred.mk x9 xa xb) (GPred.mk y9 ya yb)=c6
    cases c1
    · exact .inr ⟨by simp,by simp⟩
    cases c2
    · exact .inr ⟨by simp,by simp⟩
    cases c4
    · exact .inr ⟨by simp,by simp⟩
    cases c3
    · exact .inr ⟨by simp,by simp⟩
    cases c7
    · exact .inr ⟨by simp,by simp⟩
    cases c5
    · exact .inr ⟨by simp,by simp⟩
    cases c6
    · exact .inr ⟨by simp,by simp⟩
    simp only[Bool.not_true,Bool.false_eq_true,if_false,if_true,Bool.true_and,Bool.and_true]
    by_cases hB:xd.length=yd.length
    · rw[if_neg (by simp;omega)]
      rcases k4 hB with ⟨e,z1,z2,g⟩ | ⟨e,g⟩
      · simp only[zcF,g,e,Bool.true_and,hw]
        exact ih
      · simp only[zcF,g,e,Bool.false_and]
        exact .inr ⟨trivial,trivial⟩
    · rw[if_pos (by simp;omega),hlen hB]
      exact .inr ⟨by simp,rfl⟩
theorem zoZ (H : ∀ r ∈ a, ∀ r' ∈ b, ∀ c ∈ r, ∀ c' ∈ r', RefAt t n c c') (hq : a.length = b.length) (hl : a.length ≤ 4194304) (hr : ∀ r ∈ a, r.length ≤ 4194304 ∧ r.length < n) : ∀ (d i K : Nat), i + d = a.length → d < K → (eqL (eqL sameC) (a.drop i) (b.drop i) = true ∧ ∃ z1 z2, zbY t n K (i : Int) (.mk a) (.mk b) = some (.inr (z1, z2, .mk a, .mk b))) ∨ (eqL (eqL sameC) (a.drop i) (b.drop i) = false ∧ zbY t n K (i : Int) (.mk a) (.mk b) = some (.inl false))
  | 0,i,K,hi,hK=>by
    obtain⟨K,rfl⟩:∃j,K=j+1:=⟨K-1,by omega⟩
    refine .inl ⟨by rw[List.drop_of_length_le (by omega),List.drop_of_length_le (by omega)];rfl, ?_⟩
    exact⟨_,_,by rw[zbY,if_neg (by simp;omega)]⟩
  | d+1,i,K,hi,hK=>by
    obtain⟨K,rfl⟩:∃j,K=j+1:=⟨K-1,by omega⟩
    obtain⟨r,u1,u3,u2⟩:=at_ (l:=a) (i:=i) (by omega)
    obtain⟨r',v1,v3,v2⟩:=at_ (l:=b) (i:=i) (by omega)
    obtain⟨q1,q2⟩:=hr r u3
    have ih:=zoZ H hq hl hr d (i+1) K (by omega) (by omega)
    have hw:=wr1 (i:=i) (L:=a.length) (by omega) (by omega)
    rw[u2,v2,eqL,zbY,if_pos (by simp;omega),if_pos (by simp),Int.toNat_natCast,u1]
    dsimp only
    rw[v1]
    dsimp only
    by_cases hL:r.length=r'.length
    · rw[if_neg (by simp;omega)]
      rcases zoY (t:=t) (n:=n) u1 v1 (H r u3 r' v3) hL q1 r.length 0 n (by omega) q2 with ⟨e,z1,z2,g⟩ | ⟨e,g⟩
      · rw[show((0:Nat):Int)=0 from rfl]at g
        rw[List.drop_zero,List.drop_zero]at e
        simp only[g,e,hw,Bool.true_and]
        exact ih
      · rw[show((0:Nat):Int)=0 from rfl]at g
        rw[List.drop_zero,List.drop_zero]at e
        simp only[g,e,Bool.false_and]
        exact .inr ⟨trivial,trivial⟩
    · rw[if_pos (by simp;omega),zdB hL]
      exact .inr ⟨by simp,rfl⟩
end
theorem zo0 {c c':GCode} (h:CIn c) (h':CIn c'):Ev fun n=>RefAt (tab n) n c c':=by
  cases h with
  | @mk op S N V P K B As hS hN hA hK hB hV hP wP=>
  cases h' with
  | @mk op' S' N' V' P' K' B' As' hS' hN' hA' hK' hB' hV' hP' wP'=>
  exact(((zin hS).and (zin hA)).and (((zkr hN).and (zkr hK)).and (((zgY hV hV').and (zhX 2097152 P P' wP (Nat.le_refl _) hP hP')).and (Ev.ge (B.length+1))))).mono fun n hh=>⟨hh.1.1,hh.1.2,hh.2.1.1,hh.2.1.2,hh.2.2.1.1,hh.2.2.1.2,by have:=hh.2.2.2;simp only[cBy];omega,hB⟩
theorem zmT {a b:List (List GCode)} (ha:RIn a) (hb:RIn b):Ev fun n=>(tab n).zdq (.mk a) (.mk b)=some (sameR a b):=by
  have H:Ev fun n=>∀r∈a,∀r'∈b,∀c∈r,∀c'∈r',RefAt (tab n) n c c':=Ev.all2 (p:=fun r r' n=>∀c∈r,∀c'∈r',RefAt (tab n) n c c') a b fun r hr r' hr'=>Ev.all2 (p:=fun c c' n=>RefAt (tab n) n c c') r r' fun c hc c' hc'=>zo0 ((ha.2 r hr).2 c hc) ((hb.2 r' hr').2 c' hc')
  have hn:Ev fun n=>∀r∈a,r.length≤4194304∧r.length < n:=(Ev.ge 4194305).mono fun n hn r hr=>⟨(ha.2 r hr).1,by have:=(ha.2 r hr).1;omega⟩
  refine Ev.step (((H.and hn).and (Ev.ge (a.length+1))).mono fun n hh=> ?_)
  obtain⟨⟨H,hn⟩,hN⟩:=hh
  rw[zjl,zdq]
  by_cases hL:a.length=b.length
  · rw[if_neg (by simp;omega)]
    rcases zoZ (t:=tab n) (n:=n) H hL ha.1 hn a.length 0 n (by omega) hN with ⟨e,z1,z2,g⟩ | ⟨e,g⟩
    · rw[show((0:Nat):Int)=0 from rfl]at g
      rw[List.drop_zero,List.drop_zero]at e
      simp only[g,sameR,e]
    · rw[show((0:Nat):Int)=0 from rfl]at g
      rw[List.drop_zero,List.drop_zero]at e
      simp only[g,sameR,e]
  · rw[if_pos (by simp;omega),sameR,zdB hL]
end Go.Proofs.YtgmidllbkjdnnaaDoor.W
