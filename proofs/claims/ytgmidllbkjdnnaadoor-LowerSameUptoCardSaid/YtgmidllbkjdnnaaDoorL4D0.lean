/- The proofs of it, part 0. -/
import Derived.Test.YtgmidllbkjdnnaaDoorL4C
namespace Go.Proofs.YtgmidllbkjdnnaaDoor.W
open Go.Proofs.YtgmidllbkjdnnaaDoor.Flat
set_option linter.unusedVariables false
set_option linter.unusedSimpArgs false
set_option smartUnfolding false
attribute [local irreducible] zaK zaL zdc zdb zbH zbl za7 zbG zcZ zb4 zao zaz zb2 zbr zds quoI zcW zcX zdd zbb zc2 zcC zcY zbw zcs zcH zcG zcF strAt zaT
variable {t:Tab} {call:FuncId→List AV→List AV→Option (AV × List AV)}
theorem zcR.ok (ht:TabOk t call) (n:Nat) (a1 a2:List GStep) (u3 u4:GProg) (r:_) (h:zcR t n a1 a2 u3 u4=some r):exec (env Tryd.prog 3 Tryd.f3 call) n (sub [1,1,1,1,1,1] (zt Tryd.f3)) (mkSt 72 72 [(0,(Sl 14 (GStep.ts a1))),(1,(Sl 14 (GStep.ts a2))),(7,(.ptr 7 0 [] 0)),(9,(.ptr 9 0 [] 0))] [(7,(.t (GProg.t u3))),(9,(.t (GProg.t u4)))])=some (zcR.to r):=by
 obtain⟨a3⟩:=u3
 obtain⟨a4⟩:=u4
 rw[zcR]at h
 obtain⟨a5,h1,h⟩:=sm h
 obtain⟨a6,h2,h⟩:=sm h
 rcases fk h with ⟨h3,h⟩ | ⟨h3,h⟩
 ·obtain⟨a7,rfl⟩:∃z_,z_=r:=⟨_,rfl⟩
  have h4:=h
  exact path (zaa (ht.zbf _ _ _ h1) (zaa (ht.zaA _ _ _ h2) (zk h3 (zaa (ht.zbi _ h4) (zk h3 ob))))) (by kernel_rfl)
 ·cases h
  exact path (zaa (ht.zbf _ _ _ h1) (zaa (ht.zaA _ _ _ h2) (zaG h3 ob))) (by kernel_rfl)
theorem zcS.ok (ht:TabOk t call) (n:Nat) (a1 a2:List GStep) (a3 a4:Int) (u5 u6:GProg) (r:_) (h:zcS t n a1 a2 a3 a4 u5 u6=some r):exec (env Tryd.prog 3 Tryd.f3 call) n (sub [1,1,1,1,1] (zt Tryd.f3)) (mkSt 72 72 [(0,(Sl 14 (GStep.ts a1))),(1,(Sl 14 (GStep.ts a2))),(7,(.ptr 7 0 [] 0)),(8,(I6 a3)),(9,(.ptr 9 0 [] 0)),(10,(I6 a4))] [(7,(.t (GProg.t u5))),(9,(.t (GProg.t u6)))])=some (zcS.to r):=by
 obtain⟨a5⟩:=u5
 obtain⟨a6⟩:=u6
 rw[zcS]at h
 rcases fk h with ⟨h1,h⟩ | ⟨h1,h⟩
 ·obtain⟨a7,rfl⟩:∃z_,z_=r:=⟨_,rfl⟩
  have h2:=h
  exact path (zV h1 (zdp 1 (zaa (ht.zbi _ h2) ob))) (by kernel_rfl)
 ·rcases fk h with ⟨h3,h⟩ | ⟨h3,h⟩
  ·obtain⟨a8,rfl⟩:∃z_,z_=r:=⟨_,rfl⟩
   have h4:=h
   exact path (zV h1 (zk h3 (zaa (ht.zbi _ h4) ob))) (by kernel_rfl)
  ·obtain⟨a9,rfl⟩:∃z_,z_=r:=⟨_,rfl⟩
   have h5:=h
   exact path (zV h1 (zk h3 (zau (zcR.ok ht n _ _ _ _ _ h5) ob))) (by kernel_rfl)
theorem zcT.ok (ht:TabOk t call) (n:Nat) (a1 a2:List GStep) (u3:GProg) (r:_) (h:zcT t n a1 a2 u3=some r):exec (env Tryd.prog 3 Tryd.f3 call) n (sub [1,1] (zt Tryd.f3)) (mkSt 72 72 [(0,(Sl 14 (GStep.ts a1))),(1,(Sl 14 (GStep.ts a2))),(5,(.ptr 5 0 [] 0))] [(5,(.t (GProg.t u3)))])=some (zcT.to r):=by
 obtain⟨a3⟩:=u3
 rw[zcT]at h
 obtain⟨⟨⟨a4⟩,a5⟩,h1,h⟩:=sm h
 obtain⟨⟨⟨a6⟩,a7⟩,h2,h⟩:=sm h
 obtain⟨a8,h3,h⟩:=sm h
 obtain⟨a9,h4,h⟩:=sm h
 have o4 {os} (x:Obls (env Tryd.prog 3 Tryd.f3 call) n os):=zaa (ht.zbC _ _ h1) (zaa (ht.zbC _ _ h2) (zaa (ht.zbf _ _ _ h3) (zaa (ht.zdq _ _ _ h4) x)))
 rcases fk h with ⟨h5,h⟩ | ⟨h5,h⟩
 ·obtain⟨a10,h6,h⟩:=sm h
  have o14 {os} (x:Obls (env Tryd.prog 3 Tryd.f3 call) n os):=o4 (zV (ng h5) (zaa (ht.zbf _ _ _ h6) (zV (ng h5) (zaa (ht.zbf _ _ _ h3) (zaG (ng h5) x)))))
  rcases fk h with ⟨h7,h⟩ | ⟨h7,h⟩
  ·obtain⟨a11,h8,h⟩:=sm h
   rcases fk h with ⟨h9,h⟩ | ⟨h9,h⟩
   ·obtain⟨a12,rfl⟩:∃z_,z_=r:=⟨_,rfl⟩
    have h10:=h
    exact path (o14 (zV (ng h7) (zaa (ht.zbf _ _ _ h8) (zaG (ng h7) (zk (ng h9) (zau (zcS.ok ht n _ _ _ _ _ _ _ h10) ob)))))) (by kernel_rfl)
   ·cases h
    exact path (o14 (zV (ng h7) (zaa (ht.zbf _ _ _ h8) (zaG (ng h7) (zk (ng h9) ob))))) (by kernel_rfl)
  ·cases h
   exact path (o14 (zax (ng h7) 5 (zdp 1 ob))) (by kernel_rfl)
 ·cases h
  exact path (o4 (zax (ng h5) 8 (zdp 6 ob))) (by kernel_rfl)
theorem zbJ.ok {n:Nat} {t:Tab} (ht:TabOk t (run Tryd.prog own kp X n)):∀(p1:List GStep) (p2:List GStep) (p3:GProg) r,zbJ t n p1 p2 p3=some r→run Tryd.prog own kp X (n+1) 3 [(Sl 14 (GStep.ts p1)),(Sl 14 (GStep.ts p2)),(.t (GProg.t p3))] []=some ((Bo r),[]):=by
 intro p1 p2 p3 r h
 obtain⟨a1,rfl⟩:∃z_,z_=p1:=⟨_,rfl⟩
 obtain⟨a2,rfl⟩:∃z_,z_=p2:=⟨_,rfl⟩
 obtain⟨a3⟩:=p3
 rw[zbJ]at h
 obtain⟨a4,h1,h⟩:=sm h
 rcases fk h with ⟨h2,h⟩ | ⟨h2,h⟩
 ·obtain⟨a5,rfl⟩:∃z_,z_=r:=⟨_,rfl⟩
  have h3:=h
  exact zi Tryd.func3 (zaa (ht.zcU _ _ h1) (zV h2 (zdp 5 (zaa (ht.zbi _ h3) ob)))) (by kernel_rfl)
 ·obtain⟨a6,h4,h⟩:=sm h
  have o5 {os} (x:Obls (env Tryd.prog 3 Tryd.f3 (run Tryd.prog own kp X n)) n os):=zaa (ht.zcU _ _ h1) (zaG h2 (zaa (ht.zcU _ _ h4) (zk h2 x)))
  rcases fk h with ⟨h5,h⟩ | ⟨h5,h⟩
  ·obtain⟨a7,rfl⟩:∃z_,z_=r:=⟨_,rfl⟩
   have h6:=h
   exact zi Tryd.func3 (o5 (za1 h5 (zdp 1 (zaa (ht.zbi _ h6) ob)))) (by kernel_rfl)
  ·obtain⟨a8,h7,h⟩:=sm h
   rcases fk h with ⟨h8,h⟩ | ⟨h8,h⟩
   ·obtain⟨a9,rfl⟩:∃z_,z_=r:=⟨_,rfl⟩
    have h9:=h
    exact zi Tryd.func3 (o5 (zaG h5 (zaa (ht.zde _ _ h7) (zaG h5 (zk h8 (zaa (ht.zbi _ h9) ob)))))) (by kernel_rfl)
   ·obtain⟨a10,rfl⟩:∃z_,z_=r:=⟨_,rfl⟩
    have h10:=h
    exact zi Tryd.func3 (o5 (zaG h5 (zaa (ht.zde _ _ h7) (zaG h5 (zk h8 (zau (zcT.ok ht n _ _ _ _ h10) ob)))))) (by kernel_rfl)
theorem zcU.ok {n:Nat} {t:Tab} (ht:TabOk t (run Tryd.prog own kp X n)):∀(p1:List GStep) r,zcU t n p1=some r→run Tryd.prog own kp X (n+1) 6 [(Sl 14 (GStep.ts p1))] []=some ((Bo r),[]):=by
 intro p1 r h
 obtain⟨a1,rfl⟩:∃z_,z_=p1:=⟨_,rfl⟩
 rw[zcU]at h
 obtain⟨a2,h1,h⟩:=sm h
 cases h
 exact zi Tryd.func6 (zaa (ht.zbo _ _ _ _ h1) ob) (by kernel_rfl)
theorem zdP.ok (ht:TabOk t call) (n:Nat) (a1 a2:List GStep) (u3:GProg) (r:_) (h:zdP t n a1 a2 u3=some r):exec (env Tryd.prog 8 Tryd.f8 call) n (sub [1,1,1,1,1,1,1] (zt Tryd.f8)) (mkSt 118 118 [(3,(Sl 14 (GStep.ts a1))),(4,(.ptr 4 0 [] 0)),(6,(Sl 14 (GStep.ts a2)))] [(4,(.t (GProg.t u3)))])=some (zdP.to r):=by
 obtain⟨a3⟩:=u3
 rw[zdP]at h
 obtain⟨h1,h⟩:=ck h
 obtain⟨a4,h2,h⟩:=sm h
 obtain⟨h3,h⟩:=ck h
 obtain⟨⟨a5,a6,a7,⟨a8,a9,a10,a11,a12⟩,⟨a13,a14,a15⟩,a16,a17,a18⟩,h4,h⟩:=sm h
 obtain⟨a19,h5,h⟩:=sm h
 have o6 {os} (x:Obls (env Tryd.prog 8 Tryd.f8 call) n os):=zaq h1 (zan (zu zB h2) (zaq h3 (zan (zu GCode.zl h4) (zaq h1 (zan (zu zw h5) x)))))
 rcases fk h with ⟨h6,h⟩ | ⟨h6,h⟩
 ·obtain⟨h7,h⟩:=ck h
  obtain⟨a20,h8,h⟩:=sm h
  obtain⟨⟨a21,a22,a23,⟨a24,a25,a26,a27,a28⟩,⟨a29,a30,a31⟩,a32,a33,a34⟩,h9,h⟩:=sm h
  have o19 {os} (x:Obls (env Tryd.prog 8 Tryd.f8 call) n os):=o6 (zV h6 (zaq h7 (zan (zu zB h8) (zaG h6 (zaq h7 (zan (zu GCode.zl h9) (za1 h6 x)))))))
  rcases fk h with ⟨h10,h⟩ | ⟨h10,h⟩
  ·obtain⟨h11,h⟩:=ck h
   obtain⟨a35,h12,h⟩:=sm h
   obtain⟨⟨a36,a37,a38,⟨a39,a40,a41,a42,a43⟩,⟨a44,a45,a46⟩,a47,a48,a49⟩,h13,h⟩:=sm h
   have o32 {os} (x:Obls (env Tryd.prog 8 Tryd.f8 call) n os):=o19 (zV h10 (zaq h11 (zan (zu zB h12) (zaG h10 (zaq h1 (zan (zu GCode.zl h13) (za1 h10 x)))))))
   rcases fk h with ⟨h14,h⟩ | ⟨h14,h⟩
   ·obtain⟨a50,h15,h⟩:=sm h
    rcases fk h with ⟨h16,h⟩ | ⟨h16,h⟩
    ·obtain⟨a51,h17,h⟩:=sm h
     rcases fk h with ⟨h18,h⟩ | ⟨h18,h⟩
     ·obtain⟨a52,rfl⟩:∃z_,z_=r:=⟨_,rfl⟩
      have h19:=h
      exact path (o32 (zV h14 (zaa (ht.zaA _ _ _ h15) (zk h14 (zaG h16 (zaa (ht.zdD _ _ h17) (zaG h16 (zV h18 (zaa (ht.zbf _ _ _ h19) (zk h18 ob)))))))))) (by kernel_rfl)
     ·cases h
      exact path (o32 (zV h14 (zaa (ht.zaA _ _ _ h15) (zk h14 (zaG h16 (zaa (ht.zdD _ _ h17) (zaG h16 (za1 h18 ob)))))))) (by kernel_rfl)
    ·cases h
     exact path (o32 (zV h14 (zaa (ht.zaA _ _ _ h15) (zk h14 (za1 h16 (za1 (rfl:false=false) ob)))))) (by kernel_rfl)
   ·cases h
    exact path (o32 (za1 h14 (zax (rfl:false=false) 8 ob))) (by kernel_rfl)
  ·cases h
   exact path (o19 (zax h10 9 (zax (rfl:false=false) 12 ob))) (by kernel_rfl)
 ·cases h
  exact path (o6 (zax h6 9 (zax (rfl:false=false) 21 ob))) (by kernel_rfl)
theorem zbi.ok {n:Nat} {t:Tab} (ht:TabOk t (run Tryd.prog own kp X n)):∀r,zbi t n=some r→run Tryd.prog own kp X (n+1) 8 [] []=some ((Bo r),[]):=by
 intro r h
 rw[zbi]at h
 obtain⟨⟨⟨a1⟩,a2⟩,h1,h⟩:=sm h
 obtain⟨⟨a3,a4⟩,h2,h⟩:=sm h
 have o2 {os} (x:Obls (env Tryd.prog 8 Tryd.f8 (run Tryd.prog own kp X n)) n os):=zaa (ht.zbC _ _ h1) (zaa (ht.zdu _ _ h2) x)
 rcases fk h with ⟨h3,h⟩ | ⟨h3,h⟩
 ·cases h
  exact zi Tryd.func8 (o2 (zV h3 (zdp 30 ob))) (by kernel_rfl)
 ·rcases fk h with ⟨h4,h⟩ | ⟨h4,h⟩
  ·cases h
   exact zi Tryd.func8 (o2 (zV h3 (zax h4 5 (zdp 25 ob)))) (by kernel_rfl)
  ·have o11 {os} (x:Obls (env Tryd.prog 8 Tryd.f8 (run Tryd.prog own kp X n)) n os):=o2 (zV h3 (zV h4 (zG (zo zB (l:=a1)) (zaG h4 x))))
   rcases fk h with ⟨h5,h⟩ | ⟨h5,h⟩
   ·cases h
    exact zi Tryd.func8 (o11 (zax h5 7 (zdp 18 ob))) (by kernel_rfl)
   ·obtain⟨h6,h⟩:=ck h
    obtain⟨a5,h7,h⟩:=sm h
    have o21 {os} (x:Obls (env Tryd.prog 8 Tryd.f8 (run Tryd.prog own kp X n)) n os):=o11 (zV h5 (zaq h6 (zan (zu zB h7) (zaG h5 (zG (zo GCode.zl (l:=a5)) (zaG h5 x))))))
    rcases fk h with ⟨h8,h⟩ | ⟨h8,h⟩
    ·cases h
     exact zi Tryd.func8 (o21 (zax h8 10 (zdp 8 ob))) (by kernel_rfl)
    ·obtain⟨h9,h⟩:=ck h
     obtain⟨⟨a6,a7,a8,⟨a9,a10,a11,a12,a13⟩,⟨a14,a15,a16⟩,a17,a18,a19⟩,h10,h⟩:=sm h
     have o36 {os} (x:Obls (env Tryd.prog 8 Tryd.f8 (run Tryd.prog own kp X n)) n os):=o21 (zV h8 (zaq h6 (zan (zu zB h7) (zaG h8 (zaq h9 (zan (zu GCode.zl h10) (zV h8 (zG (zo zw (l:=a17)) (zaG h8 x)))))))))
     rcases fk h with ⟨h11,h⟩ | ⟨h11,h⟩
     ·cases h
      exact zi Tryd.func8 (o36 (zax h11 7 (zdp 1 ob))) (by kernel_rfl)
     ·obtain⟨h12,h⟩:=ck h
      obtain⟨a20,h13,h⟩:=sm h
      have o46 {os} (x:Obls (env Tryd.prog 8 Tryd.f8 (run Tryd.prog own kp X n)) n os):=o36 (zV h11 (zaq h12 (zan (zu zB h13) (zaG h11 (zG (zo GCode.zl (l:=a20)) (zaG h11 x))))))
      rcases fk h with ⟨h14,h⟩ | ⟨h14,h⟩
      ·cases h
       exact zi Tryd.func8 (o46 (zk h14 ob)) (by kernel_rfl)
      ·obtain⟨a21,rfl⟩:∃z_,z_=r:=⟨_,rfl⟩
       have h15:=h
       exact zi Tryd.func8 (o46 (zk h14 (zau (zdP.ok ht n _ _ _ _ h15) ob))) (by kernel_rfl)
theorem zdb.ok (ht:TabOk t call) (n:Nat) (a1 a2 a3:Int) (u4:GProg) (r:_) (h:zdb t n a1 a2 a3 u4=some r):exec (env Tryd.prog 7 Tryd.f7 call) n (sub [1,1,0,1,0,0,1,0,0,1,0,0,1] (zt Tryd.f7)) (mkSt 67 67 [(1,(.ptr 1 0 [] 0)),(3,(I6 a1)),(4,(I6 a2)),(5,(I6 a3))] [(1,(.t (GProg.t u4)))])=some (zdb.to r):=by
 obtain⟨a4⟩:=u4
 rw[zdb]at h
 obtain⟨h1,h⟩:=ck h
 obtain⟨a5,h2,h⟩:=sm h
 obtain⟨h3,h⟩:=ck h
 obtain⟨⟨a6,a7,a8,⟨a9,a10,a11,a12,a13⟩,⟨a14,a15,a16⟩,a17,a18,a19⟩,h4,h⟩:=sm h
 obtain⟨a20,h5,h⟩:=sm h
 cases h
 exact path (zaq h1 (zan (zu zB h2) (zaq h3 (zan (zu GCode.zl h4) (zaa (ht.zbo _ _ _ _ h5) (zG (zo zw (l:=a17)) (zG (zo GKey.zl (l:=a18)) ob))))))) (by kernel_rfl)
theorem zbU.okL (ht:TabOk t call) (n:Nat):∀(k:Nat) (a1 a2 a3:Int) (u4:GProg) (r:_),zbU t n k a1 a2 a3 u4=some r→loopN (exec (env Tryd.prog 7 Tryd.f7 call) n (sub [1,1,0,1,0,0,1,0,0,1,0,0] (zt Tryd.f7))) k (mkSt 67 67 [(1,(.ptr 1 0 [] 0)),(3,(I6 a1)),(4,(I6 a2)),(5,(I6 a3))] [(1,(.t (GProg.t u4)))])=some (zbU.to r)
 | 0,a1,a2,a3,u4,r,h=>by rw[zbU]at h;cases h
 | k+1,a1,a2,a3,⟨a4⟩,r,h=>by
  rw[zbU]at h
  obtain⟨h1,h⟩:=ck h
  obtain⟨a5,h2,h⟩:=sm h
  have o3 {os} (x:Obls (env Tryd.prog 7 Tryd.f7 call) n os):=zaq h1 (zan (zu zB h2) (zG (zo GCode.zl (l:=a5)) x))
  rcases fk h with ⟨h3,h⟩ | ⟨h3,h⟩
  ·rcases fk h with ⟨h4,h⟩ | ⟨h4,h⟩
   ·obtain⟨⟨a6,a7,a8,⟨a9⟩⟩,h5,h⟩:=sm h
    exact zM (path (o3 (zV h3 (zk h4 (zau (zdb.ok ht n _ _ _ _ _ h5) ob)))) (by kernel_rfl)) (zbU.okL ht n k _ _ _ _ _ h)
   ·cases h
    exact zx (path (o3 (zV h3 (zk h4 ob))) (by kernel_rfl)) (fun h=>by cases h)
  ·cases h
   exact zx (path (o3 (zV h3 (zk (rfl:false=false) ob))) (by kernel_rfl)) (fun h=>by cases h)
theorem zdc.ok (ht:TabOk t call) (n:Nat) (a1 a2:Int) (u3:GProg) (r:_) (h:zdc t n a1 a2 u3=some r):exec (env Tryd.prog 7 Tryd.f7 call) n (sub [1,1,0,1,0,0,1] (zt Tryd.f7)) (mkSt 67 67 [(1,(.ptr 1 0 [] 0)),(3,(I6 a1)),(4,(I6 a2))] [(1,(.t (GProg.t u3)))])=some (zdc.to r):=by
 obtain⟨a3⟩:=u3
 rw[zdc]at h
 obtain⟨⟨a4,a5,a6,a7,⟨a8⟩⟩,h1,h⟩:=sm h
 cases h
 exact path (zbj (lk (sub [1,1,0,1,0,0,1,0,0,1,0] (zt Tryd.f7)) (by kernel_rfl) (zbU.okL ht n n _ _ _ _ _ h1)) ob) (by kernel_rfl)
theorem zbV.okL (ht:TabOk t call) (n:Nat):∀(k:Nat) (a1 a2:Int) (u3:GProg) (r:_),zbV t n k a1 a2 u3=some r→loopN (exec (env Tryd.prog 7 Tryd.f7 call) n (sub [1,1,0,1,0,0] (zt Tryd.f7))) k (mkSt 67 67 [(1,(.ptr 1 0 [] 0)),(3,(I6 a1)),(4,(I6 a2))] [(1,(.t (GProg.t u3)))])=some (zbV.to r)
 | 0,a1,a2,u3,r,h=>by rw[zbV]at h;cases h
 | k+1,a1,a2,⟨a3⟩,r,h=>by
  rw[zbV]at h
  rcases fk h with ⟨h1,h⟩ | ⟨h1,h⟩
  ·rcases fk h with ⟨h2,h⟩ | ⟨h2,h⟩
   ·obtain⟨⟨a4,a5,⟨a6⟩⟩,h3,h⟩:=sm h
    exact zM (path (zG (zo zB (l:=a3)) (zV h1 (zk h2 (zau (zdc.ok ht n _ _ _ _ h3) ob)))) (by kernel_rfl)) (zbV.okL ht n k _ _ _ _ h)
   ·cases h
    exact zx (path (zG (zo zB (l:=a3)) (zV h1 (zk h2 ob))) (by kernel_rfl)) (fun h=>by cases h)
  ·cases h
   exact zx (path (zG (zo zB (l:=a3)) (zV h1 (zk (rfl:false=false) ob))) (by kernel_rfl)) (fun h=>by cases h)
theorem zde.ok {n:Nat} {t:Tab} (ht:TabOk t (run Tryd.prog own kp X n)):∀(p1:GProg) r,zde t n p1=some r→run Tryd.prog own kp X (n+1) 7 [(.t (GProg.t p1))] []=some ((I6 r),[]):=by
 intro p1 r h
 obtain⟨a1⟩:=p1
 rw[zde]at h
 obtain⟨⟨a2,a3,a4,⟨a5⟩⟩,h1,h⟩:=sm h
 cases h
 exact zi Tryd.func7 (zG (zo zB (l:=a1)) (zbj (lk (sub [1,1,0,1,0] (zt Tryd.f7)) (by kernel_rfl) (zbV.okL ht n n _ _ _ _ h1)) ob)) (by kernel_rfl)
theorem zbC.ok {n:Nat} {t:Tab} (ht:TabOk t (run Tryd.prog own kp X n)):∀(p1:List GStep) r,zbC t n p1=some r→run Tryd.prog own kp X (n+1) 9 [(Sl 14 (GStep.ts p1))] []=some ((.tup [(GProg.t r.1),(.v (.int .i64 r.2))]),[]):=by
 intro p1 r h
 obtain⟨a1,rfl⟩:∃z_,z_=p1:=⟨_,rfl⟩
 rw[zbC]at h
 obtain⟨a2,h1,h⟩:=sm h
 rcases fk h with ⟨h2,h⟩ | ⟨h2,h⟩
 ·cases h
  exact zi Tryd.func9 (zaa (ht.zcL _ _ h1) (zk h2 (zfb (zd1 (l:=([]:List (List GCode)))) ob))) (by kernel_rfl)
 ·obtain⟨a3,h3,h⟩:=sm h
  obtain⟨⟨a4,⟨a5⟩⟩,h4,h⟩:=sm h
  cases h
  exact zi Tryd.func9 (zaa (ht.zcL _ _ h1) (zk h2 (zaa (ht.zdx _ _ h3) (zaa (ht.zaN _ _ _ h4) (zfb (zd1 (l:=a5)) ob))))) (by kernel_rfl)
theorem zbf.ok {n:Nat} {t:Tab} (ht:TabOk t (run Tryd.prog own kp X n)):∀(p1:GProg) (p2:GProg) r,zbf t n p1 p2=some r→run Tryd.prog own kp X (n+1) 10 [(.t (GProg.t p1)),(.t (GProg.t p2))] []=some ((Bo r),[]):=by
 intro p1 p2 r h
 obtain⟨a1⟩:=p1
 obtain⟨a2⟩:=p2
 rw[zbf]at h
 obtain⟨a3,rfl⟩:∃z_,z_=r:=⟨_,rfl⟩
 have h1:=h
 exact zi Tryd.func10 (zaa (ht.zac _ _ _ h1) ob) (by kernel_rfl)
theorem zbW.okL (ht:TabOk t call) (n:Nat):∀(k:Nat) (a1 a2 a3:Int) (u4 u5:GProg) (u6 u7:GCode) (r:_),zbW t n k a1 a2 a3 u4 u5 u6 u7=some r→loopN (exec (env Tryd.prog 11 Tryd.f11 call) n (sub [1,1,0,1,0,0,1,0,0,1,1,0,0,1,0,0,1,1,1,1,0,0] (zt Tryd.f11))) k (mkSt 143 143 [(2,(.ptr 2 0 [] 0)),(3,(.ptr 3 0 [] 0)),(5,(I6 a1)),(6,(I6 a2)),(7,(.ptr 7 0 [] 0)),(8,(.ptr 8 0 [] 0)),(9,(I6 a3))] [(2,(.t (GProg.t u4))),(3,(.t (GProg.t u5))),(7,(.t (GCode.t u6))),(8,(.t (GCode.t u7)))])=some (zbW.to r)
 | 0,a1,a2,a3,u4,u5,u6,u7,r,h=>by rw[zbW]at h;cases h
 | k+1,a1,a2,a3,⟨a4⟩,⟨a5⟩,⟨a6,a7,a8,⟨a9,a10,a11,a12,a13⟩,⟨a14,a15,a16⟩,a17,a18,a19⟩,⟨a20,a21,a22,⟨a23,a24,a25,a26,a27⟩,⟨a28,a29,a30⟩,a31,a32,a33⟩,r,h=>by
  rw[zbW]at h
  rcases fk h with ⟨h1,h⟩ | ⟨h1,h⟩
  ·obtain⟨h2,h⟩:=ck h
   obtain⟨⟨a34,a35,a36,a37⟩,h3,h⟩:=sm h
   obtain⟨⟨a38,a39,a40,a41⟩,h4,h⟩:=sm h
   rcases fk h with ⟨h5,h⟩ | ⟨h5,h⟩
   ·exact zM (path (zG (zo GKey.zl (l:=a18)) (zk h1 (zaq h2 (zan (zu GKey.zl h3) (zaq h2 (zan (zu GKey.zl h4) (zk (ng h5) ob))))))) (by kernel_rfl)) (zbW.okL ht n k _ _ _ _ _ _ _ _ h)
   ·cases h
    exact zx (path (zG (zo GKey.zl (l:=a18)) (zk h1 (zaq h2 (zan (zu GKey.zl h3) (zaq h2 (zan (zu GKey.zl h4) (zk (ng h5) ob))))))) (by kernel_rfl)) (fun h=>by cases h)
  ·cases h
   exact zx (path (zG (zo GKey.zl (l:=a18)) (zk h1 ob)) (by kernel_rfl)) (fun h=>by cases h)
theorem zcF.ok (ht:TabOk t call) (n:Nat) (a1 a2:Int) (u3 u4:GProg) (u5 u6:GCode) (r:_) (h:zcF t n a1 a2 u3 u4 u5 u6=some r):exec (env Tryd.prog 11 Tryd.f11 call) n (sub [1,1,0,1,0,0,1,0,0,1,1,0,0,1,0,0,1,1,1] (zt Tryd.f11)) (mkSt 143 143 [(2,(.ptr 2 0 [] 0)),(3,(.ptr 3 0 [] 0)),(5,(I6 a1)),(6,(I6 a2)),(7,(.ptr 7 0 [] 0)),(8,(.ptr 8 0 [] 0))] [(2,(.t (GProg.t u3))),(3,(.t (GProg.t u4))),(7,(.t (GCode.t u5))),(8,(.t (GCode.t u6)))])=some (zcF.to r):=by
 obtain⟨a3⟩:=u3
 obtain⟨a4⟩:=u4
 obtain⟨a5,a6,a7,⟨a8,a9,a10,a11,a12⟩,⟨a13,a14,a15⟩,a16,a17,a18⟩:=u5
 obtain⟨a19,a20,a21,⟨a22,a23,a24,a25,a26⟩,⟨a27,a28,a29⟩,a30,a31,a32⟩:=u6
 rw[zcF]at h
 obtain⟨a33 | ⟨a34,a35,a36,a37,⟨a38⟩,⟨a39⟩,⟨a40,a41,a42,⟨a43,a44,a45,a46,a47⟩,⟨a48,a49,a50⟩,a51,a52,a53⟩,⟨a54,a55,a56,⟨a57,a58,a59,a60,a61⟩,⟨a62,a63,a64⟩,a65,a66,a67⟩⟩,h1,h⟩:=sm h
 ·cases h
  exact path (zbj (lk (sub [1,1,0,1,0,0,1,0,0,1,1,0,0,1,0,0,1,1,1,1,0] (zt Tryd.f11)) (by kernel_rfl) (zbW.okL ht n n _ _ _ _ _ _ _ _ h1)) ob) (by kernel_rfl)
 ·cases h
  exact path (zbj (lk (sub [1,1,0,1,0,0,1,0,0,1,1,0,0,1,0,0,1,1,1,1,0] (zt Tryd.f11)) (by kernel_rfl) (zbW.okL ht n n _ _ _ _ _ _ _ _ h1)) ob) (by kernel_rfl)
theorem zbX.okL (ht:TabOk t call) (n:Nat):∀(k:Nat) (a1 a2:Int) (u3 u4:GProg) (r:_),zbX t n k a1 a2 u3 u4=some r→loopN (exec (env Tryd.prog 11 Tryd.f11 call) n (sub [1,1,0,1,0,0,1,0,0,1,1,0,0] (zt Tryd.f11))) k (mkSt 143 143 [(2,(.ptr 2 0 [] 0)),(3,(.ptr 3 0 [] 0)),(5,(I6 a1)),(6,(I6 a2))] [(2,(.t (GProg.t u3))),(3,(.t (GProg.t u4)))])=some (zbX.to r)
 | 0,a1,a2,u3,u4,r,h=>by rw[zbX]at h;cases h
 | k+1,a1,a2,⟨a3⟩,⟨a4⟩,r,h=>by
  rw[zbX]at h
  obtain⟨h1,h⟩:=ck h
  obtain⟨a5,h2,h⟩:=sm h
  have o3 {os} (x:Obls (env Tryd.prog 11 Tryd.f11 call) n os):=zaq h1 (zan (zu zB h2) (zG (zo GCode.zl (l:=a5)) x))
  rcases fk h with ⟨h3,h⟩ | ⟨h3,h⟩
  ·obtain⟨h4,h⟩:=ck h
   obtain⟨⟨a6,a7,a8,⟨a9,a10,a11,a12,a13⟩,⟨a14,a15,a16⟩,a17,a18,a19⟩,h5,h⟩:=sm h
   obtain⟨a20,h6,h⟩:=sm h
   obtain⟨⟨a21,a22,a23,⟨a24,a25,a26,a27,a28⟩,⟨a29,a30,a31⟩,a32,a33,a34⟩,h7,h⟩:=sm h
   have o12 {os} (x:Obls (env Tryd.prog 11 Tryd.f11 call) n os):=o3 (zk h3 (zaq h1 (zan (zu zB h2) (zaq h4 (zan (zu GCode.zl h5) (zaq h1 (zan (zu zB h6) (zaq h4 (zan (zu GCode.zl h7) x)))))))))
   rcases fk h with ⟨h8,h⟩ | ⟨h8,h⟩
   ·cases h
    exact zx (path (o12 (zax h8 7 (zdp 44 ob))) (by kernel_rfl)) (fun h=>by cases h)
   ·obtain⟨a35,h9,h⟩:=sm h
    have o20 {os} (x:Obls (env Tryd.prog 11 Tryd.f11 call) n os):=o12 (zax h8 5 (zaa (ht.zb9 _ _ _ h9) (zaG h8 x)))
    rcases fk h with ⟨h10,h⟩ | ⟨h10,h⟩
    ·obtain⟨a36,h11,h⟩:=sm h
     have o28 {os} (x:Obls (env Tryd.prog 11 Tryd.f11 call) n os):=o20 (zax (ng h10) 5 (zaa (ht.zb9 _ _ _ h11) (zaG (ng h10) x)))
     rcases fk h with ⟨h12,h⟩ | ⟨h12,h⟩
     ·obtain⟨a37,h13,h⟩:=sm h
      have o36 {os} (x:Obls (env Tryd.prog 11 Tryd.f11 call) n os):=o28 (zax (ng h12) 5 (zaa (ht.za2 _ _ _ h13) (zaG (ng h12) x)))
      rcases fk h with ⟨h14,h⟩ | ⟨h14,h⟩
      ·obtain⟨a38,h15,h⟩:=sm h
       have o44 {os} (x:Obls (env Tryd.prog 11 Tryd.f11 call) n os):=o36 (zax (ng h14) 5 (zaa (ht.za2 _ _ _ h15) (zaG (ng h14) x)))
       rcases fk h with ⟨h16,h⟩ | ⟨h16,h⟩
       ·obtain⟨a39,h17,h⟩:=sm h
        have o52 {os} (x:Obls (env Tryd.prog 11 Tryd.f11 call) n os):=o44 (zax (ng h16) 5 (zaa (ht.zb0 _ _ _ h17) (zaG (ng h16) x)))
        rcases fk h with ⟨h18,h⟩ | ⟨h18,h⟩
        ·obtain⟨a40,h19,h⟩:=sm h
         have o60 {os} (x:Obls (env Tryd.prog 11 Tryd.f11 call) n os):=o52 (zax (ng h18) 5 (zaa (ht.zbI _ _ _ h19) (zaG (ng h18) x)))
         rcases fk h with ⟨h20,h⟩ | ⟨h20,h⟩
         ·have o70 {os} (x:Obls (env Tryd.prog 11 Tryd.f11 call) n os):=o60 (zV (ng h20) (zG (zo GKey.zl (l:=a18)) (zV (ng h20) (zG (zo GKey.zl (l:=a33)) (zaG (ng h20) x)))))
          rcases fk h with ⟨h21,h⟩ | ⟨h21,h⟩
          ·cases h
           exact zx (path (o70 (zk h21 ob)) (by kernel_rfl)) (fun h=>by cases h)
          ·obtain⟨a41 | ⟨a42,a43,⟨a44⟩,⟨a45⟩⟩,h22,h⟩:=sm h
           ·cases h
            exact zx (path (o70 (zk h21 (zau (zcF.ok ht n _ _ _ _ _ _ _ h22) ob))) (by kernel_rfl)) (fun h=>by cases h)
           ·exact zM (path (o70 (zk h21 (zau (zcF.ok ht n _ _ _ _ _ _ _ h22) ob))) (by kernel_rfl)) (zbX.okL ht n k _ _ _ _ _ h)
         ·cases h
          exact zx (path (o60 (zax (ng h20) 8 (zdp 1 ob))) (by kernel_rfl)) (fun h=>by cases h)
        ·cases h
         exact zx (path (o52 (zax (ng h18) 7 (zdp 9 ob))) (by kernel_rfl)) (fun h=>by cases h)
       ·cases h
        exact zx (path (o44 (zax (ng h16) 7 (zdp 16 ob))) (by kernel_rfl)) (fun h=>by cases h)
      ·cases h
       exact zx (path (o36 (zax (ng h14) 7 (zdp 23 ob))) (by kernel_rfl)) (fun h=>by cases h)
     ·cases h
      exact zx (path (o28 (zax (ng h12) 7 (zdp 30 ob))) (by kernel_rfl)) (fun h=>by cases h)
    ·cases h
     exact zx (path (o20 (zax (ng h10) 7 (zdp 37 ob))) (by kernel_rfl)) (fun h=>by cases h)
  ·cases h
   exact zx (path (o3 (zk h3 ob)) (by kernel_rfl)) (fun h=>by cases h)
theorem zbY.okL (ht:TabOk t call) (n:Nat):∀(k:Nat) (a1:Int) (u2 u3:GProg) (r:_),zbY t n k a1 u2 u3=some r→loopN (exec (env Tryd.prog 11 Tryd.f11 call) n (sub [1,1,0,1,0,0] (zt Tryd.f11))) k (mkSt 143 143 [(2,(.ptr 2 0 [] 0)),(3,(.ptr 3 0 [] 0)),(5,(I6 a1))] [(2,(.t (GProg.t u2))),(3,(.t (GProg.t u3)))])=some (zbY.to r)
 | 0,a1,u2,u3,r,h=>by rw[zbY]at h;cases h
 | k+1,a1,⟨a2⟩,⟨a3⟩,r,h=>by
  rw[zbY]at h
  rcases fk h with ⟨h1,h⟩ | ⟨h1,h⟩
  ·obtain⟨h2,h⟩:=ck h
   obtain⟨a4,h3,h⟩:=sm h
   obtain⟨a5,h4,h⟩:=sm h
   have o8 {os} (x:Obls (env Tryd.prog 11 Tryd.f11 call) n os):=zG (zo zB (l:=a2)) (zk h1 (zaq h2 (zan (zu zB h3) (zG (zo GCode.zl (l:=a4)) (zaq h2 (zan (zu zB h4) (zG (zo GCode.zl (l:=a5)) x)))))))
   rcases fk h with ⟨h5,h⟩ | ⟨h5,h⟩
   ·cases h
    exact zx (path (o8 (zk h5 ob)) (by kernel_rfl)) (fun h=>by cases h)
   ·obtain⟨a6 | ⟨a7,a8,a9,⟨a10⟩,⟨a11⟩⟩,h6,h⟩:=sm h
    ·cases h
     exact zx (path (o8 (zk h5 (zbj (lk (sub [1,1,0,1,0,0,1,0,0,1,1,0] (zt Tryd.f11)) (by kernel_rfl) (zbX.okL ht n n _ _ _ _ _ h6)) ob))) (by kernel_rfl)) (fun h=>by cases h)
    ·exact zM (path (o8 (zk h5 (zbj (lk (sub [1,1,0,1,0,0,1,0,0,1,1,0] (zt Tryd.f11)) (by kernel_rfl) (zbX.okL ht n n _ _ _ _ _ h6)) ob))) (by kernel_rfl)) (zbY.okL ht n k _ _ _ _ h)
  ·cases h
   exact zx (path (zG (zo zB (l:=a2)) (zk h1 ob)) (by kernel_rfl)) (fun h=>by cases h)
theorem zdq.ok {n:Nat} {t:Tab} (ht:TabOk t (run Tryd.prog own kp X n)):∀(p1:GProg) (p2:GProg) r,zdq t n p1 p2=some r→run Tryd.prog own kp X (n+1) 11 [(.t (GProg.t p1)),(.t (GProg.t p2))] []=some ((Bo r),[]):=by
 intro p1 p2 r h
 obtain⟨a1⟩:=p1
 obtain⟨a2⟩:=p2
 rw[zdq]at h
 have o2 {os} (x:Obls (env Tryd.prog 11 Tryd.f11 (run Tryd.prog own kp X n)) n os):=zG (zo zB (l:=a1)) (zG (zo zB (l:=a2)) x)
 rcases fk h with ⟨h1,h⟩ | ⟨h1,h⟩
 ·cases h
  exact zi Tryd.func11 (o2 (zk h1 ob)) (by kernel_rfl)
 ·obtain⟨a3 | ⟨a4,a5,⟨a6⟩,⟨a7⟩⟩,h2,h⟩:=sm h
  ·cases h
   exact zi Tryd.func11 (o2 (zk h1 (zbj (lk (sub [1,1,0,1,0] (zt Tryd.f11)) (by kernel_rfl) (zbY.okL ht n n _ _ _ _ h2)) ob))) (by kernel_rfl)
  ·cases h
   exact zi Tryd.func11 (o2 (zk h1 (zbj (lk (sub [1,1,0,1,0] (zt Tryd.f11)) (by kernel_rfl) (zbY.okL ht n n _ _ _ _ h2)) ob))) (by kernel_rfl)
theorem zbE.okL (ht:TabOk t call) (n:Nat):∀(k:Nat) (a1 a2:List GStep) (a3 a4 a5:Int) (a6:List ByteArray) (a7:List Int) (a8 a9:Int) (a10:ByteArray) (a11 a12:List zh) (a13:Int) (a14:List zh) (a15:List GPred) (a16:List (List GStep)) (a17:List GBy) (a18:List ByteArray) (a19:Int) (a20:List ByteArray) (a21:List Int) (a22 a23:Int) (a24:ByteArray) (a25 a26:List zh) (a27:Int) (a28:List zh) (a29:List GPred) (a30:List (List GStep)) (a31:List GBy) (a32:List ByteArray) (r:_),zbE t n k a1 a2 a3 a4 a5 a6 a7 a8 a9 a10 a11 a12 a13 a14 a15 a16 a17 a18 a19 a20 a21 a22 a23 a24 a25 a26 a27 a28 a29 a30 a31 a32=some r→loopN (exec (env Tryd.prog 12 Tryd.f12 call) n (sub [1,1,0,1,0,0,1,0,0,1,1,1,0,1,0,0] (zt Tryd.f12))) k (mkSt 177 177 [(0,(Sl 14 (GStep.ts a1))),(1,(Sl 14 (GStep.ts a2))),(5,(I6 a3)),(6,(.ptr 6 0 [] 0)),(7,(.ptr 7 0 [] 0)),(8,(I6 a4))] [(6,(.t (.st [(.v (.int .i64 a5)),(.sl false 1 (texts a6)),(.sl false 1 (zz a7)),(.st [(.v (.int .i64 a8)),(.v (.int .i64 a9)),(.v (.string a10)),(.sl false 5 (zh.ts a11)),(.sl false 5 (zh.ts a12))]),(.st [(.v (.int .i64 a13)),(.sl false 5 (zh.ts a14)),(.sl false 3 (GPred.ts a15))]),(.sl false 1 (zq a16)),(.sl false 4 (GBy.ts a17)),(.sl false 1 (texts a18))]))),(7,(.t (.st [(.v (.int .i64 a19)),(.sl false 1 (texts a20)),(.sl false 1 (zz a21)),(.st [(.v (.int .i64 a22)),(.v (.int .i64 a23)),(.v (.string a24)),(.sl false 5 (zh.ts a25)),(.sl false 5 (zh.ts a26))]),(.st [(.v (.int .i64 a27)),(.sl false 5 (zh.ts a28)),(.sl false 3 (GPred.ts a29))]),(.sl false 1 (zq a30)),(.sl false 4 (GBy.ts a31)),(.sl false 1 (texts a32))])))])=some (zbE.to r)
 | 0,a1,a2,a3,a4,a5,a6,a7,a8,a9,a10,a11,a12,a13,a14,a15,a16,a17,a18,a19,a20,a21,a22,a23,a24,a25,a26,a27,a28,a29,a30,a31,a32,r,h=>by rw[zbE]at h;cases h
 | k+1,a1,a2,a3,a4,a5,a6,a7,a8,a9,a10,a11,a12,a13,a14,a15,a16,a17,a18,a19,a20,a21,a22,a23,a24,a25,a26,a27,a28,a29,a30,a31,a32,r,h=>by
  rw[zbE]at h
  rcases fk h with ⟨h1,h⟩ | ⟨h1,h⟩
  ·obtain⟨h2,h⟩:=ck h
   obtain⟨a33,h3,h⟩:=sm h
   obtain⟨a34,h4,h⟩:=sm h
   obtain⟨a35,h5,h⟩:=sm h
   have o7 {os} (x:Obls (env Tryd.prog 12 Tryd.f12 call) n os):=zG (zo zy (l:=a16)) (zk h1 (zaq h2 (zan (zu zy h3) (zaq h2 (zan (zu zy h4) (zaa (ht.zaA _ _ _ h5) x))))))
   rcases fk h with ⟨h6,h⟩ | ⟨h6,h⟩
   ·exact zM (path (o7 (zk (ng h6) ob)) (by kernel_rfl)) (zbE.okL ht n k _ _ _ _ _ _ _ _ _ _ _ _ _ _ _ _ _ _ _ _ _ _ _ _ _ _ _ _ _ _ _ _ _ h)
   ·cases h
    exact zx (path (o7 (zk (ng h6) ob)) (by kernel_rfl)) (fun h=>by cases h)
  ·cases h
   exact zx (path (zG (zo zy (l:=a16)) (zk h1 ob)) (by kernel_rfl)) (fun h=>by cases h)
theorem zbZ.okL (ht:TabOk t call) (n:Nat):∀(k:Nat) (a1 a2:List GStep) (a3 a4 a5:Int) (a6:List ByteArray) (a7:List Int) (a8 a9:Int) (a10:ByteArray) (a11 a12:List zh) (a13:Int) (a14:List zh) (a15:List GPred) (a16:List (List GStep)) (a17:List GBy) (a18:List ByteArray) (a19:Int) (a20:List ByteArray) (a21:List Int) (a22 a23:Int) (a24:ByteArray) (a25 a26:List zh) (a27:Int) (a28:List zh) (a29:List GPred) (a30:List (List GStep)) (a31:List GBy) (a32:List ByteArray) (r:_),zbZ t n k a1 a2 a3 a4 a5 a6 a7 a8 a9 a10 a11 a12 a13 a14 a15 a16 a17 a18 a19 a20 a21 a22 a23 a24 a25 a26 a27 a28 a29 a30 a31 a32=some r→loopN (exec (env Tryd.prog 12 Tryd.f12 call) n (sub [1,1,0,1,0,0,1,0,0,1,1,1,1,1,0,0] (zt Tryd.f12))) k (mkSt 177 177 [(0,(Sl 14 (GStep.ts a1))),(1,(Sl 14 (GStep.ts a2))),(5,(I6 a3)),(6,(.ptr 6 0 [] 0)),(7,(.ptr 7 0 [] 0)),(9,(I6 a4))] [(6,(.t (.st [(.v (.int .i64 a5)),(.sl false 1 (texts a6)),(.sl false 1 (zz a7)),(.st [(.v (.int .i64 a8)),(.v (.int .i64 a9)),(.v (.string a10)),(.sl false 5 (zh.ts a11)),(.sl false 5 (zh.ts a12))]),(.st [(.v (.int .i64 a13)),(.sl false 5 (zh.ts a14)),(.sl false 3 (GPred.ts a15))]),(.sl false 1 (zq a16)),(.sl false 4 (GBy.ts a17)),(.sl false 1 (texts a18))]))),(7,(.t (.st [(.v (.int .i64 a19)),(.sl false 1 (texts a20)),(.sl false 1 (zz a21)),(.st [(.v (.int .i64 a22)),(.v (.int .i64 a23)),(.v (.string a24)),(.sl false 5 (zh.ts a25)),(.sl false 5 (zh.ts a26))]),(.st [(.v (.int .i64 a27)),(.sl false 5 (zh.ts a28)),(.sl false 3 (GPred.ts a29))]),(.sl false 1 (zq a30)),(.sl false 4 (GBy.ts a31)),(.sl false 1 (texts a32))])))])=some (zbZ.to r)
 | 0,a1,a2,a3,a4,a5,a6,a7,a8,a9,a10,a11,a12,a13,a14,a15,a16,a17,a18,a19,a20,a21,a22,a23,a24,a25,a26,a27,a28,a29,a30,a31,a32,r,h=>by rw[zbZ]at h;cases h
 | k+1,a1,a2,a3,a4,a5,a6,a7,a8,a9,a10,a11,a12,a13,a14,a15,a16,a17,a18,a19,a20,a21,a22,a23,a24,a25,a26,a27,a28,a29,a30,a31,a32,r,h=>by
  rw[zbZ]at h
  rcases fk h with ⟨h1,h⟩ | ⟨h1,h⟩
  ·obtain⟨h2,h⟩:=ck h
   obtain⟨⟨a33,a34,a35,a36⟩,h3,h⟩:=sm h
   obtain⟨⟨a37,a38,a39,a40⟩,h4,h⟩:=sm h
   have o6 {os} (x:Obls (env Tryd.prog 12 Tryd.f12 call) n os):=zG (zo GBy.zl (l:=a17)) (zk h1 (zaq h2 (zan (zu GBy.zl h3) (zaq h2 (zan (zu GBy.zl h4) x)))))
   rcases fk h with ⟨h5,h⟩ | ⟨h5,h⟩
   ·cases h
    exact zx (path (o6 (zax h5 14 (zdp 30 ob))) (by kernel_rfl)) (fun h=>by cases h)
   ·have o24 {os} (x:Obls (env Tryd.prog 12 Tryd.f12 call) n os):=o6 (za1 h5 (zaq h2 (zan (zu GBy.zl h3) (zax h5 6 (zaq h2 (zan (zu GBy.zl h4) (za1 h5 x)))))))
    rcases fk h with ⟨h6,h⟩ | ⟨h6,h⟩
    ·have o42 {os} (x:Obls (env Tryd.prog 12 Tryd.f12 call) n os):=o24 (za1 (ng h6) (zaq h2 (zan (zu GBy.zl h3) (zax (ng h6) 6 (zaq h2 (zan (zu GBy.zl h4) (za1 (ng h6) x)))))))
     rcases fk h with ⟨h7,h⟩ | ⟨h7,h⟩
     ·obtain⟨a41,h8,h⟩:=sm h
      have o62 {os} (x:Obls (env Tryd.prog 12 Tryd.f12 call) n os):=o42 (za1 (ng h7) (zaq h2 (zan (zu GBy.zl h3) (zax (ng h7) 6 (zaq h2 (zan (zu GBy.zl h4) (zV (ng h7) (zaa (ht.zaA _ _ _ h8) (zaG (ng h7) x)))))))))
      rcases fk h with ⟨h9,h⟩ | ⟨h9,h⟩
      ·exact zM (path (o62 (zk (ng h9) ob)) (by kernel_rfl)) (zbZ.okL ht n k _ _ _ _ _ _ _ _ _ _ _ _ _ _ _ _ _ _ _ _ _ _ _ _ _ _ _ _ _ _ _ _ _ h)
      ·cases h
       exact zx (path (o62 (zk (ng h9) ob)) (by kernel_rfl)) (fun h=>by cases h)
     ·cases h
      exact zx (path (o42 (zax (ng h7) 15 (zdp 1 ob))) (by kernel_rfl)) (fun h=>by cases h)
    ·cases h
     exact zx (path (o24 (zax (ng h6) 14 (zdp 16 ob))) (by kernel_rfl)) (fun h=>by cases h)
  ·cases h
   exact zx (path (zG (zo GBy.zl (l:=a17)) (zk h1 ob)) (by kernel_rfl)) (fun h=>by cases h)
theorem zdz.ok (ht:TabOk t call) (n:Nat) (a1 a2:List GStep) (a3 a4:Int) (a5:List ByteArray) (a6:List Int) (a7 a8:Int) (a9:ByteArray) (a10 a11:List zh) (a12:Int) (a13:List zh) (a14:List GPred) (a15:List (List GStep)) (a16:List GBy) (a17:List ByteArray) (a18:Int) (a19:List ByteArray) (a20:List Int) (a21 a22:Int) (a23:ByteArray) (a24 a25:List zh) (a26:Int) (a27:List zh) (a28:List GPred) (a29:List (List GStep)) (a30:List GBy) (a31:List ByteArray) (r:_) (h:zdz t n a1 a2 a3 a4 a5 a6 a7 a8 a9 a10 a11 a12 a13 a14 a15 a16 a17 a18 a19 a20 a21 a22 a23 a24 a25 a26 a27 a28 a29 a30 a31=some r):exec (env Tryd.prog 12 Tryd.f12 call) n (sub [1,1,0,1,0,0,1,0,0,1,1,1,1] (zt Tryd.f12)) (mkSt 177 177 [(0,(Sl 14 (GStep.ts a1))),(1,(Sl 14 (GStep.ts a2))),(5,(I6 a3)),(6,(.ptr 6 0 [] 0)),(7,(.ptr 7 0 [] 0))] [(6,(.t (.st [(.v (.int .i64 a4)),(.sl false 1 (texts a5)),(.sl false 1 (zz a6)),(.st [(.v (.int .i64 a7)),(.v (.int .i64 a8)),(.v (.string a9)),(.sl false 5 (zh.ts a10)),(.sl false 5 (zh.ts a11))]),(.st [(.v (.int .i64 a12)),(.sl false 5 (zh.ts a13)),(.sl false 3 (GPred.ts a14))]),(.sl false 1 (zq a15)),(.sl false 4 (GBy.ts a16)),(.sl false 1 (texts a17))]))),(7,(.t (.st [(.v (.int .i64 a18)),(.sl false 1 (texts a19)),(.sl false 1 (zz a20)),(.st [(.v (.int .i64 a21)),(.v (.int .i64 a22)),(.v (.string a23)),(.sl false 5 (zh.ts a24)),(.sl false 5 (zh.ts a25))]),(.st [(.v (.int .i64 a26)),(.sl false 5 (zh.ts a27)),(.sl false 3 (GPred.ts a28))]),(.sl false 1 (zq a29)),(.sl false 4 (GBy.ts a30)),(.sl false 1 (texts a31))])))])=some (zdz.to r):=by
 rw[zdz]at h
 obtain⟨a32 | ⟨a33,a34,a35,a36,a37,a38,a39,a40,a41,a42,a43,a44,a45,a46,a47,a48,a49,a50,a51,a52,a53,a54,a55,a56,a57,a58,a59,a60,a61,a62,a63,a64,a65⟩,h1,h⟩:=sm h
 ·cases h
  exact path (zbj (lk (sub [1,1,0,1,0,0,1,0,0,1,1,1,1,1,0] (zt Tryd.f12)) (by kernel_rfl) (zbZ.okL ht n n _ _ _ _ _ _ _ _ _ _ _ _ _ _ _ _ _ _ _ _ _ _ _ _ _ _ _ _ _ _ _ _ _ h1)) ob) (by kernel_rfl)
 ·cases h
  exact path (zbj (lk (sub [1,1,0,1,0,0,1,0,0,1,1,1,1,1,0] (zt Tryd.f12)) (by kernel_rfl) (zbZ.okL ht n n _ _ _ _ _ _ _ _ _ _ _ _ _ _ _ _ _ _ _ _ _ _ _ _ _ _ _ _ _ _ _ _ _ h1)) ob) (by kernel_rfl)
theorem zcG.ok (ht:TabOk t call) (n:Nat) (a1 a2:List GStep) (a3 a4:Int) (a5:List ByteArray) (a6:List Int) (a7 a8:Int) (a9:ByteArray) (a10 a11:List zh) (a12:Int) (a13:List zh) (a14:List GPred) (a15:List (List GStep)) (a16:List GBy) (a17:List ByteArray) (a18:Int) (a19:List ByteArray) (a20:List Int) (a21 a22:Int) (a23:ByteArray) (a24 a25:List zh) (a26:Int) (a27:List zh) (a28:List GPred) (a29:List (List GStep)) (a30:List GBy) (a31:List ByteArray) (r:_) (h:zcG t n a1 a2 a3 a4 a5 a6 a7 a8 a9 a10 a11 a12 a13 a14 a15 a16 a17 a18 a19 a20 a21 a22 a23 a24 a25 a26 a27 a28 a29 a30 a31=some r):exec (env Tryd.prog 12 Tryd.f12 call) n (sub [1,1,0,1,0,0,1,0,0,1,1,1] (zt Tryd.f12)) (mkSt 177 177 [(0,(Sl 14 (GStep.ts a1))),(1,(Sl 14 (GStep.ts a2))),(5,(I6 a3)),(6,(.ptr 6 0 [] 0)),(7,(.ptr 7 0 [] 0))] [(6,(.t (.st [(.v (.int .i64 a4)),(.sl false 1 (texts a5)),(.sl false 1 (zz a6)),(.st [(.v (.int .i64 a7)),(.v (.int .i64 a8)),(.v (.string a9)),(.sl false 5 (zh.ts a10)),(.sl false 5 (zh.ts a11))]),(.st [(.v (.int .i64 a12)),(.sl false 5 (zh.ts a13)),(.sl false 3 (GPred.ts a14))]),(.sl false 1 (zq a15)),(.sl false 4 (GBy.ts a16)),(.sl false 1 (texts a17))]))),(7,(.t (.st [(.v (.int .i64 a18)),(.sl false 1 (texts a19)),(.sl false 1 (zz a20)),(.st [(.v (.int .i64 a21)),(.v (.int .i64 a22)),(.v (.string a23)),(.sl false 5 (zh.ts a24)),(.sl false 5 (zh.ts a25))]),(.st [(.v (.int .i64 a26)),(.sl false 5 (zh.ts a27)),(.sl false 3 (GPred.ts a28))]),(.sl false 1 (zq a29)),(.sl false 4 (GBy.ts a30)),(.sl false 1 (texts a31))])))])=some (zcG.to r):=by
 rw[zcG]at h
 obtain⟨a32 | ⟨a33,a34,a35,a36,a37,a38,a39,a40,a41,a42,a43,a44,a45,a46,a47,a48,a49,a50,a51,a52,a53,a54,a55,a56,a57,a58,a59,a60,a61,a62,a63,a64,a65⟩,h1,h⟩:=sm h
 ·cases h
  exact path (zbj (lk (sub [1,1,0,1,0,0,1,0,0,1,1,1,0,1,0] (zt Tryd.f12)) (by kernel_rfl) (zbE.okL ht n n _ _ _ _ _ _ _ _ _ _ _ _ _ _ _ _ _ _ _ _ _ _ _ _ _ _ _ _ _ _ _ _ _ h1)) ob) (by kernel_rfl)
 ·have h2:=h
  rcases r with a66 | ⟨a67,a68,a69⟩
  ·exact path (zbj (lk (sub [1,1,0,1,0,0,1,0,0,1,1,1,0,1,0] (zt Tryd.f12)) (by kernel_rfl) (zbE.okL ht n n _ _ _ _ _ _ _ _ _ _ _ _ _ _ _ _ _ _ _ _ _ _ _ _ _ _ _ _ _ _ _ _ _ h1)) (zau (zdz.ok ht n _ _ _ _ _ _ _ _ _ _ _ _ _ _ _ _ _ _ _ _ _ _ _ _ _ _ _ _ _ _ _ _ h2) ob)) (by kernel_rfl)
  ·exact path (zbj (lk (sub [1,1,0,1,0,0,1,0,0,1,1,1,0,1,0] (zt Tryd.f12)) (by kernel_rfl) (zbE.okL ht n n _ _ _ _ _ _ _ _ _ _ _ _ _ _ _ _ _ _ _ _ _ _ _ _ _ _ _ _ _ _ _ _ _ h1)) (zau (zdz.ok ht n _ _ _ _ _ _ _ _ _ _ _ _ _ _ _ _ _ _ _ _ _ _ _ _ _ _ _ _ _ _ _ _ h2) ob)) (by kernel_rfl)
theorem zbF.okL (ht:TabOk t call) (n:Nat):∀(k:Nat) (a1 a2:List GStep) (a3:Int) (r:_),zbF t n k a1 a2 a3=some r→loopN (exec (env Tryd.prog 12 Tryd.f12 call) n (sub [1,1,0,1,0,0] (zt Tryd.f12))) k (mkSt 177 177 [(0,(Sl 14 (GStep.ts a1))),(1,(Sl 14 (GStep.ts a2))),(5,(I6 a3))] [])=some (zbF.to r)
 | 0,a1,a2,a3,r,h=>by rw[zbF]at h;cases h
 | k+1,a1,a2,a3,r,h=>by
  rw[zbF]at h
  rcases fk h with ⟨h1,h⟩ | ⟨h1,h⟩
  ·obtain⟨h2,h⟩:=ck h
   obtain⟨⟨a4,a5,a6,⟨a7,a8,a9,a10,a11⟩,⟨a12,a13,a14⟩,a15,a16,a17⟩,h3,h⟩:=sm h
   obtain⟨⟨a18,a19,a20,⟨a21,a22,a23,a24,a25⟩,⟨a26,a27,a28⟩,a29,a30,a31⟩,h4,h⟩:=sm h
   have o6 {os} (x:Obls (env Tryd.prog 12 Tryd.f12 call) n os):=zG (zo GStep.zl (l:=a1)) (zk h1 (zaq h2 (zan (zu GStep.zl h3) (zaq h2 (zan (zu GStep.zl h4) x)))))
   rcases fk h with ⟨h5,h⟩ | ⟨h5,h⟩
   ·cases h
    exact zx (path (o6 (zax h5 7 (zdp 45 ob))) (by kernel_rfl)) (fun h=>by cases h)
   ·obtain⟨a32,h6,h⟩:=sm h
    have o14 {os} (x:Obls (env Tryd.prog 12 Tryd.f12 call) n os):=o6 (zax h5 5 (zaa (ht.zaO _ _ _ h6) (zaG h5 x)))
    rcases fk h with ⟨h7,h⟩ | ⟨h7,h⟩
    ·obtain⟨a33,h8,h⟩:=sm h
     have o22 {os} (x:Obls (env Tryd.prog 12 Tryd.f12 call) n os):=o14 (zax (ng h7) 5 (zaa (ht.zaQ _ _ _ h8) (zaG (ng h7) x)))
     rcases fk h with ⟨h9,h⟩ | ⟨h9,h⟩
     ·obtain⟨a34,h10,h⟩:=sm h
      have o30 {os} (x:Obls (env Tryd.prog 12 Tryd.f12 call) n os):=o22 (zax (ng h9) 5 (zaa (ht.zaO _ _ _ h10) (zaG (ng h9) x)))
      rcases fk h with ⟨h11,h⟩ | ⟨h11,h⟩
      ·obtain⟨a35,h12,h⟩:=sm h
       have o38 {os} (x:Obls (env Tryd.prog 12 Tryd.f12 call) n os):=o30 (zax (ng h11) 5 (zaa (ht.zb0 _ _ _ h12) (zaG (ng h11) x)))
       rcases fk h with ⟨h13,h⟩ | ⟨h13,h⟩
       ·obtain⟨a36,h14,h⟩:=sm h
        have o46 {os} (x:Obls (env Tryd.prog 12 Tryd.f12 call) n os):=o38 (zax (ng h13) 5 (zaa (ht.zbI _ _ _ h14) (zaG (ng h13) x)))
        rcases fk h with ⟨h15,h⟩ | ⟨h15,h⟩
        ·have o56 {os} (x:Obls (env Tryd.prog 12 Tryd.f12 call) n os):=o46 (zV (ng h15) (zG (zo zy (l:=a15)) (zV (ng h15) (zG (zo zy (l:=a29)) (zaG (ng h15) x)))))
         rcases fk h with ⟨h16,h⟩ | ⟨h16,h⟩
         ·cases h
          exact zx (path (o56 (zax h16 8 (zdp 1 ob))) (by kernel_rfl)) (fun h=>by cases h)
         ·have o66 {os} (x:Obls (env Tryd.prog 12 Tryd.f12 call) n os):=o56 (zV h16 (zG (zo GBy.zl (l:=a16)) (zV h16 (zG (zo GBy.zl (l:=a30)) (zaG h16 x)))))
          rcases fk h with ⟨h17,h⟩ | ⟨h17,h⟩
          ·cases h
           exact zx (path (o66 (zk h17 ob)) (by kernel_rfl)) (fun h=>by cases h)
          ·obtain⟨a37 | ⟨a38,a39,a40⟩,h18,h⟩:=sm h
           ·cases h
            exact zx (path (o66 (zk h17 (zau (zcG.ok ht n _ _ _ _ _ _ _ _ _ _ _ _ _ _ _ _ _ _ _ _ _ _ _ _ _ _ _ _ _ _ _ _ h18) ob))) (by kernel_rfl)) (fun h=>by cases h)
           ·exact zM (path (o66 (zk h17 (zau (zcG.ok ht n _ _ _ _ _ _ _ _ _ _ _ _ _ _ _ _ _ _ _ _ _ _ _ _ _ _ _ _ _ _ _ _ h18) ob))) (by kernel_rfl)) (zbF.okL ht n k _ _ _ _ h)
        ·cases h
         exact zx (path (o46 (zax (ng h15) 8 (zdp 9 ob))) (by kernel_rfl)) (fun h=>by cases h)
       ·cases h
        exact zx (path (o38 (zax (ng h13) 7 (zdp 17 ob))) (by kernel_rfl)) (fun h=>by cases h)
      ·cases h
       exact zx (path (o30 (zax (ng h11) 7 (zdp 24 ob))) (by kernel_rfl)) (fun h=>by cases h)
     ·cases h
      exact zx (path (o22 (zax (ng h9) 7 (zdp 31 ob))) (by kernel_rfl)) (fun h=>by cases h)
    ·cases h
     exact zx (path (o14 (zax (ng h7) 7 (zdp 38 ob))) (by kernel_rfl)) (fun h=>by cases h)
  ·cases h
   exact zx (path (zG (zo GStep.zl (l:=a1)) (zk h1 ob)) (by kernel_rfl)) (fun h=>by cases h)
theorem zaA.ok {n:Nat} {t:Tab} (ht:TabOk t (run Tryd.prog own kp X n)):∀(p1:List GStep) (p2:List GStep) r,zaA t n p1 p2=some r→run Tryd.prog own kp X (n+1) 12 [(Sl 14 (GStep.ts p1)),(Sl 14 (GStep.ts p2))] []=some ((Bo r),[]):=by
 intro p1 p2 r h
 obtain⟨a1,rfl⟩:∃z_,z_=p1:=⟨_,rfl⟩
 obtain⟨a2,rfl⟩:∃z_,z_=p2:=⟨_,rfl⟩
 rw[zaA]at h
 rcases fk h with ⟨h1,h⟩ | ⟨h1,h⟩
 ·cases h
  exact zi Tryd.func12 (zG (zo GStep.zl (l:=a1)) (zG (zo GStep.zl (l:=a2)) (zk h1 ob))) (by kernel_rfl)
 ·obtain⟨a3 | ⟨a4,a5,a6,a7⟩,h2,h⟩:=sm h
  ·cases h
   exact zi Tryd.func12 (zG (zo GStep.zl (l:=a1)) (zG (zo GStep.zl (l:=a2)) (zk h1 (zbj (lk (sub [1,1,0,1,0] (zt Tryd.f12)) (by kernel_rfl) (zbF.okL ht n n _ _ _ _ h2)) ob)))) (by kernel_rfl)
  ·cases h
   exact zi Tryd.func12 (zG (zo GStep.zl (l:=a1)) (zG (zo GStep.zl (l:=a2)) (zk h1 (zbj (lk (sub [1,1,0,1,0] (zt Tryd.f12)) (by kernel_rfl) (zbF.okL ht n n _ _ _ _ h2)) ob)))) (by kernel_rfl)
theorem zcH.ok (ht:TabOk t call) (n:Nat) (a1:List GStep) (a2 a3 a4 a5:Int) (a6:List (List GStep)) (a7:Int) (r:_) (h:zcH t n a1 a2 a3 a4 a5 a6 a7=some r):exec (env Tryd.prog 17 Tryd.f17 call) n (sub [1,1,0,1,0,0,1,0,0,1,1,1,1,0,0,1] (zt Tryd.f17)) (mkSt 80 80 [(0,(Sl 14 (GStep.ts a1))),(1,(I6 a2)),(2,(I6 a3)),(7,(I6 a4)),(8,(I6 a5)),(10,(Sl 1 (zq a6))),(11,(I6 a7))] [])=some (zcH.to r):=by
 rw[zcH]at h
 rcases fk h with ⟨h1,h⟩ | ⟨h1,h⟩
 ·cases h
  exact path (zk h1 ob) (by kernel_rfl)
 ·obtain⟨h2,h⟩:=ck h
  obtain⟨a8,h3,h⟩:=sm h
  obtain⟨a9,h4,h⟩:=sm h
  cases h
  exact path (zk h1 (zaq h2 (zan (zu zy h3) (zaa (ht.zbo _ _ _ _ h4) ob)))) (by kernel_rfl)
theorem za8.okL (ht:TabOk t call) (n:Nat):∀(k:Nat) (a1:List GStep) (a2 a3 a4 a5:Int) (a6:List (List GStep)) (a7:Int) (r:_),za8 t n k a1 a2 a3 a4 a5 a6 a7=some r→loopN (exec (env Tryd.prog 17 Tryd.f17 call) n (sub [1,1,0,1,0,0,1,0,0,1,1,1,1,0,0] (zt Tryd.f17))) k (mkSt 80 80 [(0,(Sl 14 (GStep.ts a1))),(1,(I6 a2)),(2,(I6 a3)),(7,(I6 a4)),(8,(I6 a5)),(10,(Sl 1 (zq a6))),(11,(I6 a7))] [])=some (za8.to r)
 | 0,a1,a2,a3,a4,a5,a6,a7,r,h=>by rw[za8]at h;cases h
 | k+1,a1,a2,a3,a4,a5,a6,a7,r,h=>by
  rw[za8]at h
  rcases fk h with ⟨h1,h⟩ | ⟨h1,h⟩
  ·have o5 {os} (x:Obls (env Tryd.prog 17 Tryd.f17 call) n os):=zG (zo zy (l:=a6)) (za1 h1 x)
   rcases fk h with ⟨h2,h⟩ | ⟨h2,h⟩
   ·obtain⟨a8 | ⟨a9,a10,a11,a12,a13,a14,a15⟩,h3,h⟩:=sm h
    ·cases h
     exact zx (path (o5 (zk h2 (zau (zcH.ok ht n _ _ _ _ _ _ _ _ h3) ob))) (by kernel_rfl)) (fun h=>by cases h)
    ·exact zM (path (o5 (zk h2 (zau (zcH.ok ht n _ _ _ _ _ _ _ _ h3) ob))) (by kernel_rfl)) (za8.okL ht n k _ _ _ _ _ _ _ _ h)
   ·cases h
    exact zx (path (o5 (zk h2 ob)) (by kernel_rfl)) (fun h=>by cases h)
  ·cases h
   exact zx (path (zG (zo zy (l:=a6)) (za1 h1 (zk (rfl:false=false) ob))) (by kernel_rfl)) (fun h=>by cases h)
theorem zcs.ok (ht:TabOk t call) (n:Nat) (a1:List GStep) (a2 a3 a4 a5:Int) (r:_) (h:zcs t n a1 a2 a3 a4 a5=some r):exec (env Tryd.prog 17 Tryd.f17 call) n (sub [1,1,0,1,0,0,1] (zt Tryd.f17)) (mkSt 80 80 [(0,(Sl 14 (GStep.ts a1))),(1,(I6 a2)),(2,(I6 a3)),(7,(I6 a4)),(8,(I6 a5))] [])=some (zcs.to r):=by
 rw[zcs]at h
 obtain⟨h1,h⟩:=ck h
 obtain⟨⟨a6,a7,a8,⟨a9,a10,a11,a12,a13⟩,⟨a14,a15,a16⟩,a17,a18,a19⟩,h2,h⟩:=sm h
 obtain⟨a20,h3,h⟩:=sm h
 obtain⟨a21,h4,h⟩:=sm h
 obtain⟨a22,h5,h⟩:=sm h
 have o8 {os} (x:Obls (env Tryd.prog 17 Tryd.f17 call) n os):=zaq h1 (zan (zu GStep.zl h2) (zG (zo zF (l:=a7)) (zG (zo zw (l:=a8)) (zG (zo zF (l:=a19)) (zaa (ht.zbD _ _ _ h3) (zaa (ht.zcJ _ _ _ h4) (zaa (ht.zc8 _ _ h5) x)))))))
 obtain⟨a23 | ⟨a24,a25,a26,a27,a28,a29,a30,a31⟩,h6,h⟩:=sm h
 ·cases h
  exact path (o8 (zbj (lk (sub [1,1,0,1,0,0,1,0,0,1,1,1,1,0] (zt Tryd.f17)) (by kernel_rfl) (za8.okL ht n n _ _ _ _ _ _ _ _ h6)) ob)) (by kernel_rfl)
 ·cases h
  exact path (o8 (zbj (lk (sub [1,1,0,1,0,0,1,0,0,1,1,1,1,0] (zt Tryd.f17)) (by kernel_rfl) (za8.okL ht n n _ _ _ _ _ _ _ _ h6)) ob)) (by kernel_rfl)
theorem za9.okL (ht:TabOk t call) (n:Nat):∀(k:Nat) (a1:List GStep) (a2 a3 a4 a5:Int) (r:_),za9 t n k a1 a2 a3 a4 a5=some r→loopN (exec (env Tryd.prog 17 Tryd.f17 call) n (sub [1,1,0,1,0,0] (zt Tryd.f17))) k (mkSt 80 80 [(0,(Sl 14 (GStep.ts a1))),(1,(I6 a2)),(2,(I6 a3)),(7,(I6 a4)),(8,(I6 a5))] [])=some (za9.to r)
 | 0,a1,a2,a3,a4,a5,r,h=>by rw[za9]at h;cases h
 | k+1,a1,a2,a3,a4,a5,r,h=>by
  rw[za9]at h
  rcases fk h with ⟨h1,h⟩ | ⟨h1,h⟩
  ·rcases fk h with ⟨h2,h⟩ | ⟨h2,h⟩
   ·obtain⟨a6 | ⟨a7,a8,a9,a10,a11⟩,h3,h⟩:=sm h
    ·cases h
     exact zx (path (zG (zo GStep.zl (l:=a1)) (za1 h1 (zk h2 (zau (zcs.ok ht n _ _ _ _ _ _ h3) ob)))) (by kernel_rfl)) (fun h=>by cases h)
    ·exact zM (path (zG (zo GStep.zl (l:=a1)) (za1 h1 (zk h2 (zau (zcs.ok ht n _ _ _ _ _ _ h3) ob)))) (by kernel_rfl)) (za9.okL ht n k _ _ _ _ _ _ h)
   ·cases h
    exact zx (path (zG (zo GStep.zl (l:=a1)) (za1 h1 (zk h2 ob))) (by kernel_rfl)) (fun h=>by cases h)
  ·cases h
   exact zx (path (zG (zo GStep.zl (l:=a1)) (za1 h1 (zk (rfl:false=false) ob))) (by kernel_rfl)) (fun h=>by cases h)
theorem zbo.ok {n:Nat} {t:Tab} (ht:TabOk t (run Tryd.prog own kp X n)):∀(p1:List GStep) (p2:Int) (p3:Int) r,zbo t n p1 p2 p3=some r→run Tryd.prog own kp X (n+1) 17 [(Sl 14 (GStep.ts p1)),(I6 p2),(I6 p3)] []=some ((I6 r),[]):=by
 intro p1 p2 p3 r h
 obtain⟨a1,rfl⟩:∃z_,z_=p1:=⟨_,rfl⟩
 obtain⟨a2,rfl⟩:∃z_,z_=p2:=⟨_,rfl⟩
 obtain⟨a3,rfl⟩:∃z_,z_=p3:=⟨_,rfl⟩
 rw[zbo]at h
 obtain⟨a4 | ⟨a5,a6,a7,a8,a9,a10⟩,h1,h⟩:=sm h
 ·cases h
  exact zi Tryd.func17 (zbj (lk (sub [1,1,0,1,0] (zt Tryd.f17)) (by kernel_rfl) (za9.okL ht n n _ _ _ _ _ _ h1)) ob) (by kernel_rfl)
 ·cases h
  exact zi Tryd.func17 (zbj (lk (sub [1,1,0,1,0] (zt Tryd.f17)) (by kernel_rfl) (za9.okL ht n n _ _ _ _ _ _ h1)) ob) (by kernel_rfl)
theorem zdu.ok {n:Nat} {t:Tab} (ht:TabOk t (run Tryd.prog own kp X n)):∀(p1:GProg) r,zdu t n p1=some r→run Tryd.prog own kp X (n+1) 15 [(.t (GProg.t p1))] []=some ((.tup [(.sl false 14 (GStep.ts r.1)),(.v (.int .i64 r.2))]),[]):=by
 intro p1 r h
 obtain⟨a1⟩:=p1
 rw[zdu]at h
 obtain⟨⟨a2,a3,⟨a4,a5⟩⟩,h1,h⟩:=sm h
 rcases fk h with ⟨h2,h⟩ | ⟨h2,h⟩
 ·have o11 {os} (x:Obls (env Tryd.prog 15 Tryd.f15 (run Tryd.prog own kp X n)) n os):=zaa (ht.zaM _ _ _ h1) (zax (ng h2) 7 (zG (zo zB (l:=a1)) (zaG (ng h2) x)))
  rcases fk h with ⟨h3,h⟩ | ⟨h3,h⟩
  ·cases h
   exact zi Tryd.func15 (o11 (za1 h3 (zdp 1 ob))) (by kernel_rfl)
  ·obtain⟨a6,h4,h⟩:=sm h
   rcases fk h with ⟨h5,h⟩ | ⟨h5,h⟩
   ·cases h
    exact zi Tryd.func15 (o11 (zaG h3 (zaa (ht.zcL _ _ h4) (zaG h3 (zk h5 ob))))) (by kernel_rfl)
   ·obtain⟨a7,h6,h⟩:=sm h
    cases h
    exact zi Tryd.func15 (o11 (zaG h3 (zaa (ht.zcL _ _ h4) (zaG h3 (zk h5 (zaa (ht.zdx _ _ h6) ob)))))) (by kernel_rfl)
 ·cases h
  exact zi Tryd.func15 (zaa (ht.zaM _ _ _ h1) (zax (ng h2) 9 (zdp 5 ob))) (by kernel_rfl)
theorem zdD.ok {n:Nat} {t:Tab} (ht:TabOk t (run Tryd.prog own kp X n)):∀(p1:GProg) r,zdD t n p1=some r→run Tryd.prog own kp X (n+1) 16 [(.t (GProg.t p1))] []=some ((I6 r),[]):=by
 intro p1 r h
 obtain⟨a1⟩:=p1
 rw[zdD]at h
 obtain⟨⟨a2,a3⟩,h1,h⟩:=sm h
 cases h
 exact zi Tryd.func16 (zaa (ht.zdu _ _ h1) ob) (by kernel_rfl)
theorem zcL.ok {n:Nat} {t:Tab} (ht:TabOk t (run Tryd.prog own kp X n)):∀(p1:List GStep) r,zcL t n p1=some r→run Tryd.prog own kp X (n+1) 18 [(Sl 14 (GStep.ts p1))] []=some ((I6 r),[]):=by
 intro p1 r h
 obtain⟨a1,rfl⟩:∃z_,z_=p1:=⟨_,rfl⟩
 rw[zcL]at h
 obtain⟨a2,h1,h⟩:=sm h
 rcases fk h with ⟨h2,h⟩ | ⟨h2,h⟩
 ·cases h
  exact zi Tryd.func18 (zaa (ht.zc6 _ _ h1) (za1 h2 (zdp 1 ob))) (by kernel_rfl)
 ·obtain⟨a3,h3,h⟩:=sm h
  rcases fk h with ⟨h4,h⟩ | ⟨h4,h⟩
  ·cases h
   exact zi Tryd.func18 (zaa (ht.zc6 _ _ h1) (zaG h2 (zaa (ht.za5 _ _ _ h3) (zaG h2 (zk (ng h4) ob))))) (by kernel_rfl)
  ·cases h
   exact zi Tryd.func18 (zaa (ht.zc6 _ _ h1) (zaG h2 (zaa (ht.za5 _ _ _ h3) (zaG h2 (zk (ng h4) ob))))) (by kernel_rfl)
theorem zdx.ok {n:Nat} {t:Tab} (ht:TabOk t (run Tryd.prog own kp X n)):∀(p1:List GStep) r,zdx t n p1=some r→run Tryd.prog own kp X (n+1) 20 [(Sl 14 (GStep.ts p1))] []=some ((Sl 14 (GStep.ts r)),[]):=by
 intro p1 r h
 obtain⟨a1,rfl⟩:∃z_,z_=p1:=⟨_,rfl⟩
 rw[zdx]at h
 obtain⟨a2,rfl⟩:∃z_,z_=r:=⟨_,rfl⟩
 have h1:=h
 exact zi Tryd.func20 (zaa (ht.za3 _ _ _ h1) ob) (by kernel_rfl)
theorem za4.okL (ht:TabOk t call) (n:Nat):∀(k:Nat) (a1:Int) (a2:List GStep) (a3 a4:Int) (a5:List (List GStep)) (a6 a7:Int) (u8:GStep) (a22:Int) (a23:List ByteArray) (a24:List Int) (u12:zh) (u13:GPred) (a33:List Int) (a34:List GKey) (a35:List ByteArray) (u17:zU) (r:_),za4 t n k a1 a2 a3 a4 a5 a6 a7 u8 a22 a23 a24 u12 u13 a33 a34 a35 u17=some r→loopN (exec (env Tryd.prog 19 Tryd.f19 call) n (sub [1,1,1,0,1,0,0,1,1,0,0,1,1,0,1,0,0] (zt Tryd.f19))) k (mkSt 110 111 [(0,(.ptr 110 0 [] 0)),(5,(I6 a1)),(7,(.ptr 7 0 [] 0)),(8,(.ptr 8 0 [] 0)),(28,(Sl 14 (GStep.ts a2))),(29,(I6 a3)),(30,(I6 a4)),(48,(Sl 1 (zq a5))),(49,(I6 a6)),(50,(I6 a7))] [(7,(.t (GStep.t u8))),(8,(.t (.st [(.v (.int .i64 a22)),(.sl false 1 (texts a23)),(.sl false 1 (zz a24)),(zh.t u12),(GPred.t u13),(.xl 1 (zz a33)),(.xl 4 (GKey.ts a34)),(.sl false 1 (texts a35))]))),(110,(.t (zU.x u17)))])=some (za4.to r)
 | 0,a1,a2,a3,a4,a5,a6,a7,u8,a22,a23,a24,u12,u13,a33,a34,a35,u17,r,h=>by rw[za4]at h;cases h
 | k+1,a1,a2,a3,a4,a5,a6,a7,⟨a8,a9,a10,⟨a11,a12,a13,a14,a15⟩,⟨a16,a17,a18⟩,a19,a20,a21⟩,a22,a23,a24,⟨a25,a26,a27,a28,a29⟩,⟨a30,a31,a32⟩,a33,a34,a35,⟨a36⟩,r,h=>by
  rw[za4]at h
  rcases fk h with ⟨h1,h⟩ | ⟨h1,h⟩
  ·obtain⟨h2,h⟩:=ck h
   obtain⟨a37,h3,h⟩:=sm h
   obtain⟨⟨a38,⟨a39⟩⟩,h4,h⟩:=sm h
   obtain⟨h5,h⟩:=cl h
   exact zM (path (zk h1 (zaq h2 (zan (zu zy h3) (zaa (ht.zaN _ _ _ h4) (zeT (zdT zw h5) (zfb (zd7 zw (a:=a33) (b:=([a38]:List Int))) ob)))))) (by kernel_rfl)) (za4.okL ht n k _ _ _ _ _ _ _ _ _ _ _ _ _ _ _ _ _ _ h)
  ·cases h
   exact zx (path (zk h1 ob) (by kernel_rfl)) (fun h=>by cases h)
theorem zbu.ok (ht:TabOk t call) (n:Nat) (a1:Int) (a2:List GStep) (a3 a4:Int) (a5:List GBy) (a6 a7 a8:Int) (a9:List ByteArray) (a10:List Int) (u11:zh) (u12:GPred) (a19:List Int) (a20:List GKey) (a21:List ByteArray) (u16:GKey) (u17:zU) (r:_) (h:zbu t n a1 a2 a3 a4 a5 a6 a7 a8 a9 a10 u11 u12 a19 a20 a21 u16 u17=some r):exec (env Tryd.prog 19 Tryd.f19 call) n (sub [1,1,1,0,1,0,0,1,1,0,0,1,1,1,0,1,0,0,1,1,0,0,1,1,1] (zt Tryd.f19)) (mkSt 110 111 [(0,(.ptr 110 0 [] 0)),(5,(I6 a1)),(8,(.ptr 8 0 [] 0)),(13,(.ptr 13 0 [] 0)),(28,(Sl 14 (GStep.ts a2))),(29,(I6 a3)),(30,(I6 a4)),(64,(Sl 4 (GBy.ts a5))),(65,(I6 a6)),(66,(I6 a7))] [(8,(.t (.st [(.v (.int .i64 a8)),(.sl false 1 (texts a9)),(.sl false 1 (zz a10)),(zh.t u11),(GPred.t u12),(.xl 1 (zz a19)),(.xl 4 (GKey.ts a20)),(.sl false 1 (texts a21))]))),(13,(.t (GKey.t u16))),(110,(.t (zU.x u17)))])=some (zbu.to r):=by
 obtain⟨a11,a12,a13,a14,a15⟩:=u11
 obtain⟨a16,a17,a18⟩:=u12
 obtain⟨a22,a23,a24,a25⟩:=u16
 obtain⟨a26⟩:=u17
 rw[zbu]at h
 obtain⟨h1,h⟩:=cl h
 cases h
 exact path (zeT (zdT GKey.zl h1) (zfb (zd7 GKey.zl (a:=a20) (b:=([(GKey.mk a22 a23 a24 a25)]:List GKey))) ob)) (by kernel_rfl)
theorem zaB.okL (ht:TabOk t call) (n:Nat):∀(k:Nat) (a1:Int) (a2:List GStep) (a3 a4:Int) (a5:List GBy) (a6 a7 a8:Int) (a9:List ByteArray) (a10:List Int) (u11:zh) (u12:GPred) (a19:List Int) (a20:List GKey) (a21:List ByteArray) (u16:zU) (r:_),zaB t n k a1 a2 a3 a4 a5 a6 a7 a8 a9 a10 u11 u12 a19 a20 a21 u16=some r→loopN (exec (env Tryd.prog 19 Tryd.f19 call) n (sub [1,1,1,0,1,0,0,1,1,0,0,1,1,1,0,1,0,0] (zt Tryd.f19))) k (mkSt 110 111 [(0,(.ptr 110 0 [] 0)),(5,(I6 a1)),(8,(.ptr 8 0 [] 0)),(28,(Sl 14 (GStep.ts a2))),(29,(I6 a3)),(30,(I6 a4)),(64,(Sl 4 (GBy.ts a5))),(65,(I6 a6)),(66,(I6 a7))] [(8,(.t (.st [(.v (.int .i64 a8)),(.sl false 1 (texts a9)),(.sl false 1 (zz a10)),(zh.t u11),(GPred.t u12),(.xl 1 (zz a19)),(.xl 4 (GKey.ts a20)),(.sl false 1 (texts a21))]))),(110,(.t (zU.x u16)))])=some (zaB.to r)
 | 0,a1,a2,a3,a4,a5,a6,a7,a8,a9,a10,u11,u12,a19,a20,a21,u16,r,h=>by rw[zaB]at h;cases h
 | k+1,a1,a2,a3,a4,a5,a6,a7,a8,a9,a10,⟨a11,a12,a13,a14,a15⟩,⟨a16,a17,a18⟩,a19,a20,a21,⟨a22⟩,r,h=>by
  rw[zaB]at h
  rcases fk h with ⟨h1,h⟩ | ⟨h1,h⟩
  ·obtain⟨h2,h⟩:=ck h
   obtain⟨⟨a23,a24,a25,a26⟩,h3,h⟩:=sm h
   rcases fk h with ⟨h4,h⟩ | ⟨h4,h⟩
   ·obtain⟨⟨a27,⟨a28⟩⟩,h5,h⟩:=sm h
    obtain⟨⟨a29,a30,a31,a32,a33,a34,a35,a36,a37,a38,⟨a39,a40,a41,a42,a43⟩,⟨a44,a45,a46⟩,a47,a48,a49,⟨a50⟩⟩,h6,h⟩:=sm h
    exact zM (path (zk h1 (zaq h2 (zan (zu GBy.zl h3) (zk h4 (zaa (ht.zaN _ _ _ h5) (zau (zbu.ok ht n _ _ _ _ _ _ _ _ _ _ _ _ _ _ _ _ _ _ h6) ob)))))) (by kernel_rfl)) (zaB.okL ht n k _ _ _ _ _ _ _ _ _ _ _ _ _ _ _ _ _ h)
   ·obtain⟨⟨a51,a52,a53,a54,a55,a56,a57,a58,a59,a60,⟨a61,a62,a63,a64,a65⟩,⟨a66,a67,a68⟩,a69,a70,a71,⟨a72⟩⟩,h7,h⟩:=sm h
    exact zM (path (zk h1 (zaq h2 (zan (zu GBy.zl h3) (zk h4 (zau (zbu.ok ht n _ _ _ _ _ _ _ _ _ _ _ _ _ _ _ _ _ _ h7) ob))))) (by kernel_rfl)) (zaB.okL ht n k _ _ _ _ _ _ _ _ _ _ _ _ _ _ _ _ _ h)
  ·cases h
   exact zx (path (zk h1 ob) (by kernel_rfl)) (fun h=>by cases h)
theorem zcy.ok (ht:TabOk t call) (n:Nat) (a1:Int) (a2:List GStep) (a3 a4:Int) (u5:GCode) (u6:zU) (r:_) (h:zcy t n a1 a2 a3 a4 u5 u6=some r):exec (env Tryd.prog 19 Tryd.f19 call) n (sub [1,1,1,0,1,0,0,1,1,0,0,1,1,1,1] (zt Tryd.f19)) (mkSt 110 111 [(0,(.ptr 110 0 [] 0)),(5,(I6 a1)),(8,(.ptr 8 0 [] 0)),(28,(Sl 14 (GStep.ts a2))),(29,(I6 a3)),(30,(I6 a4))] [(8,(.t (GCode.t u5))),(110,(.t (zU.x u6)))])=some (zcy.to r):=by
 obtain⟨a5,a6,a7,⟨a8,a9,a10,a11,a12⟩,⟨a13,a14,a15⟩,a16,a17,a18⟩:=u5
 obtain⟨a19⟩:=u6
 rw[zcy]at h
 obtain⟨h1,h⟩:=ck h
 obtain⟨a20,h2,h⟩:=sm h
 obtain⟨h3,h⟩:=cl h
 cases h
 exact path (zan (zhK (fs:=[(.xl 1 (zbk a19))]) (i:=0) rfl (zgv _)) (zaq h1 (zan (zu zbt h2) (zan (zhK (fs:=[(.xl 1 (zbk a19))]) (i:=0) rfl (zop 1 (zu zbt h2) (zgv _))) (zan (zhK (fs:=[(.xl 1 (zbk a19))]) (i:=0) rfl (zop 1 (zu zbt h2) (zgv _))) (zan (zoq (fs:=[(.xl 1 (zbk a19))]) (i:=0) rfl (zpg 1 zbt h2 (zm5 _ .op))) (zeT (zdT GCode.zl h3) (zfb (zd7 GCode.zl (a:=a20) (b:=([(GCode.mk a5 a6 a7 (zh.mk a8 a9 a10 a11 a12) (GPred.mk a13 a14 a15) a16 a17 a18)]:List GCode))) (zan (zhK (fs:=[(.xl 1 (List.set (zbk a19) ((a1:Int).toNat) .op))]) (i:=0) rfl (zgv _)) (zaq h1 (zan (zkU (z:=.op) zbt h2) (zan (zhK (fs:=[(.xl 1 (List.set (zbk a19) ((a1:Int).toNat) .op))]) (i:=0) rfl (zpQ 1 zbt h2 (zgv _))) (zan (zoq (fs:=[(.xl 1 (List.set (zbk a19) ((a1:Int).toNat) .op))]) (i:=0) rfl (zpR 1 zbt (a20++([(GCode.mk a5 a6 a7 (zh.mk a8 a9 a10 a11 a12) (GPred.mk a13 a14 a15) a16 a17 a18)]:List GCode)) h2 (zm5 _ (.xl 14 (GCode.ts (a20++([(GCode.mk a5 a6 a7 (zh.mk a8 a9 a10 a11 a12) (GPred.mk a13 a14 a15) a16 a17 a18)]:List GCode))))))) ob))))))))))))) (by kernel_rfl)
theorem zcV.ok (ht:TabOk t call) (n:Nat) (a1:Int) (a2:List GStep) (a3 a4:Int) (u5:GStep) (a19:Int) (a20:List ByteArray) (a21:List Int) (u9:zh) (u10:GPred) (a30:List Int) (a31:List GKey) (a32:List ByteArray) (u14:zU) (r:_) (h:zcV t n a1 a2 a3 a4 u5 a19 a20 a21 u9 u10 a30 a31 a32 u14=some r):exec (env Tryd.prog 19 Tryd.f19 call) n (sub [1,1,1,0,1,0,0,1,1,0,0,1,1,1] (zt Tryd.f19)) (mkSt 110 111 [(0,(.ptr 110 0 [] 0)),(5,(I6 a1)),(7,(.ptr 7 0 [] 0)),(8,(.ptr 8 0 [] 0)),(28,(Sl 14 (GStep.ts a2))),(29,(I6 a3)),(30,(I6 a4))] [(7,(.t (GStep.t u5))),(8,(.t (.st [(.v (.int .i64 a19)),(.sl false 1 (texts a20)),(.sl false 1 (zz a21)),(zh.t u9),(GPred.t u10),(.xl 1 (zz a30)),(.xl 4 (GKey.ts a31)),(.sl false 1 (texts a32))]))),(110,(.t (zU.x u14)))])=some (zcV.to r):=by
 obtain⟨a5,a6,a7,⟨a8,a9,a10,a11,a12⟩,⟨a13,a14,a15⟩,a16,a17,a18⟩:=u5
 obtain⟨a22,a23,a24,a25,a26⟩:=u9
 obtain⟨a27,a28,a29⟩:=u10
 obtain⟨a33⟩:=u14
 rw[zcV]at h
 obtain⟨⟨a34,a35,a36,a37,a38,a39,a40,a41,a42,a43,a44,⟨a45,a46,a47,a48,a49⟩,⟨a50,a51,a52⟩,a53,a54,a55,⟨a56⟩⟩,h1,h⟩:=sm h
 obtain⟨a57,a58,a59,a60,⟨a61⟩⟩:=r
 have h2:=h
 exact path (zG (zo GBy.zl (l:=a17)) (zbj (lk (sub [1,1,1,0,1,0,0,1,1,0,0,1,1,1,0,1,0] (zt Tryd.f19)) (by kernel_rfl) (zaB.okL ht n n _ _ _ _ _ _ _ _ _ _ _ _ _ _ _ _ _ h1)) (zfb (zhp (l:=a53)) (zfb (GKey.zgS (l:=a54)) (zau (zcy.ok ht n _ _ _ _ _ _ _ h2) ob))))) (by kernel_rfl)
theorem zaH.okL (ht:TabOk t call) (n:Nat):∀(k:Nat) (a1:Int) (a2:List GStep) (a3 a4:Int) (u5:zU) (r:_),zaH t n k a1 a2 a3 a4 u5=some r→loopN (exec (env Tryd.prog 19 Tryd.f19 call) n (sub [1,1,1,0,1,0,0] (zt Tryd.f19))) k (mkSt 110 111 [(0,(.ptr 110 0 [] 0)),(5,(I6 a1)),(28,(Sl 14 (GStep.ts a2))),(29,(I6 a3)),(30,(I6 a4))] [(110,(.t (zU.x u5)))])=some (zaH.to r)
 | 0,a1,a2,a3,a4,u5,r,h=>by rw[zaH]at h;cases h
 | k+1,a1,a2,a3,a4,⟨a5⟩,r,h=>by
  rw[zaH]at h
  rcases fk h with ⟨h1,h⟩ | ⟨h1,h⟩
  ·obtain⟨h2,h⟩:=ck h
   obtain⟨⟨a6,a7,a8,⟨a9,a10,a11,a12,a13⟩,⟨a14,a15,a16⟩,a17,a18,a19⟩,h3,h⟩:=sm h
   obtain⟨⟨a20,a21,a22,a23,a24,a25,a26,a27,⟨a28,a29,a30,⟨a31,a32,a33,a34,a35⟩,⟨a36,a37,a38⟩,a39,a40,a41⟩,a42,a43,a44,⟨a45,a46,a47,a48,a49⟩,⟨a50,a51,a52⟩,a53,a54,a55,⟨a56⟩⟩,h4,h⟩:=sm h
   obtain⟨⟨a57,a58,a59,a60,⟨a61⟩⟩,h5,h⟩:=sm h
   exact zM (path (zk h1 (zaq h2 (zan (zu GStep.zl h3) (zG (zo zy (l:=a17)) (zbj (lk (sub [1,1,1,0,1,0,0,1,1,0,0,1,1,0,1,0] (zt Tryd.f19)) (by kernel_rfl) (za4.okL ht n n _ _ _ _ _ _ _ _ _ _ _ _ _ _ _ _ _ _ h4)) (zau (zcV.ok ht n _ _ _ _ _ _ _ _ _ _ _ _ _ _ _ h5) ob)))))) (by kernel_rfl)) (zaH.okL ht n k _ _ _ _ _ _ h)
  ·cases h
   exact zx (path (zk h1 ob) (by kernel_rfl)) (fun h=>by cases h)
theorem zaN.ok {n:Nat} {t:Tab} (ht:TabOk t (run Tryd.prog own kp X n)):∀(p1:List GStep) (p2:zU) r,zaN t n p1 p2=some r→run Tryd.prog own kp X (n+1) 19 [(.ptr 0 0 [] 0),(Sl 14 (GStep.ts p1))] [(.t (zU.x p2))]=some ((I6 r.1),[(.t (zU.x r.2))]):=by
 intro p1 p2 r h
 obtain⟨a1,rfl⟩:∃z_,z_=p1:=⟨_,rfl⟩
 obtain⟨a2⟩:=p2
 rw[zaN]at h
 obtain⟨h1,h⟩:=cl h
 obtain⟨⟨a3,a4,a5,a6,a7,⟨a8⟩⟩,h2,h⟩:=sm h
 cases h
 exact zi Tryd.func19 (zan (zhK (fs:=[(.xl 1 (zbk a2))]) (i:=0) rfl (zgv _)) (zG (zo zbt (l:=a2)) (zeT (zdT zbt h1) (zfb (zd7 zbt (a:=a2) (b:=([([]:List GCode)]:List (List GCode)))) (zG (zo GStep.zl (l:=a1)) (zbj (lk (sub [1,1,1,0,1,0] (zt Tryd.f19)) (by kernel_rfl) (zaH.okL ht n n _ _ _ _ _ _ h2)) ob)))))) (by kernel_rfl)
theorem zN.okL (ht:TabOk t call) (n:Nat):∀(k:Nat) (a1 a2:List (List GCode)) (a3 a4:Int) (r:_),zN t n k a1 a2 a3 a4=some r→loopN (exec (env Tryd.prog 21 Tryd.f21 call) n (sub [1,1,0,1,0,0] (zt Tryd.f21))) k (mkSt 32 32 [(1,(Sl 1 (zbd a1))),(2,(.fn 22 [])),(15,(Sl 1 (zbd a2))),(16,(I6 a3)),(17,(I6 a4))] [])=some (zN.to r)
 | 0,a1,a2,a3,a4,r,h=>by rw[zN]at h;cases h
 | k+1,a1,a2,a3,a4,r,h=>by
  rw[zN]at h
  rcases fk h with ⟨h1,h⟩ | ⟨h1,h⟩
  ·obtain⟨h2,h⟩:=ck h
   obtain⟨a5,h3,h⟩:=sm h
   obtain⟨a6,h4,h⟩:=sm h
   obtain⟨a7,h5,h⟩:=sm h
   rcases fk h with ⟨h6,h⟩ | ⟨h6,h⟩
   ·exact zM (path (zk h1 (zaq h2 (zan (zu zB h3) (zaq h2 (zan (zu zB h4) (zaa (ht.zca _ _ _ h5) (zk (ng h6) ob))))))) (by kernel_rfl)) (zN.okL ht n k _ _ _ _ _ h)
   ·cases h
    exact zx (path (zk h1 (zaq h2 (zan (zu zB h3) (zaq h2 (zan (zu zB h4) (zaa (ht.zca _ _ _ h5) (zk (ng h6) ob))))))) (by kernel_rfl)) (fun h=>by cases h)
  ·cases h
   exact zx (path (zk h1 ob) (by kernel_rfl)) (fun h=>by cases h)
theorem zac.ok {n:Nat} {t:Tab} (ht:TabOk t (run Tryd.prog own kp X n)):∀(p1:List (List GCode)) (p2:List (List GCode)) r,zac t n p1 p2=some r→run Tryd.prog own kp X (n+1) 21 [(Sl 1 (zbd p1)),(Sl 1 (zbd p2)),(.fn 22 [])] []=some ((Bo r),[]):=by
 intro p1 p2 r h
 obtain⟨a1,rfl⟩:∃z_,z_=p1:=⟨_,rfl⟩
 obtain⟨a2,rfl⟩:∃z_,z_=p2:=⟨_,rfl⟩
 rw[zac]at h
 have o2 {os} (x:Obls (env Tryd.prog 21 Tryd.f21 (run Tryd.prog own kp X n)) n os):=zG (zo zB (l:=a1)) (zG (zo zB (l:=a2)) x)
 rcases fk h with ⟨h1,h⟩ | ⟨h1,h⟩
 ·cases h
  exact zi Tryd.func21 (o2 (zk h1 ob)) (by kernel_rfl)
 ·obtain⟨a3 | ⟨a4,a5,a6,a7,a8⟩,h2,h⟩:=sm h
  ·cases h
   exact zi Tryd.func21 (o2 (zk h1 (zG (zo zB (l:=a1)) (zbj (lk (sub [1,1,0,1,0] (zt Tryd.f21)) (by kernel_rfl) (zN.okL ht n n _ _ _ _ _ h2)) ob)))) (by kernel_rfl)
  ·cases h
   exact zi Tryd.func21 (o2 (zk h1 (zG (zo zB (l:=a1)) (zbj (lk (sub [1,1,0,1,0] (zt Tryd.f21)) (by kernel_rfl) (zN.okL ht n n _ _ _ _ _ h2)) ob)))) (by kernel_rfl)
theorem zbv.okL (ht:TabOk t call) (n:Nat):∀(k:Nat) (a1 a2:List ByteArray) (a3:Int) (r:_),zbv t n k a1 a2 a3=some r→loopN (exec (env Tryd.prog 25 Tryd.f25 call) n (sub [1,1,0,1,0,0] (zt Tryd.f25))) k (mkSt 26 26 [(0,(Sl 1 (texts a1))),(1,(Sl 1 (texts a2))),(5,(I6 a3))] [])=some (zbv.to r)
 | 0,a1,a2,a3,r,h=>by rw[zbv]at h;cases h
 | k+1,a1,a2,a3,r,h=>by
  rw[zbv]at h
  rcases fk h with ⟨h1,h⟩ | ⟨h1,h⟩
  ·obtain⟨h2,h⟩:=ck h
   obtain⟨a4,h3,h⟩:=sm h
   obtain⟨a5,h4,h⟩:=sm h
   rcases fk h with ⟨h5,h⟩ | ⟨h5,h⟩
   ·exact zM (path (zG (zo zF (l:=a1)) (zk h1 (zaq h2 (zan (zu zF h3) (zaq h2 (zan (zu zF h4) (zk (ng h5) ob))))))) (by kernel_rfl)) (zbv.okL ht n k _ _ _ _ h)
   ·cases h
    exact zx (path (zG (zo zF (l:=a1)) (zk h1 (zaq h2 (zan (zu zF h3) (zaq h2 (zan (zu zF h4) (zk (ng h5) ob))))))) (by kernel_rfl)) (fun h=>by cases h)
  ·cases h
   exact zx (path (zG (zo zF (l:=a1)) (zk h1 ob)) (by kernel_rfl)) (fun h=>by cases h)
theorem zb9.ok {n:Nat} {t:Tab} (ht:TabOk t (run Tryd.prog own kp X n)):∀(p1:List ByteArray) (p2:List ByteArray) r,zb9 t n p1 p2=some r→run Tryd.prog own kp X (n+1) 25 [(Sl 1 (texts p1)),(Sl 1 (texts p2))] []=some ((Bo r),[]):=by
 intro p1 p2 r h
 obtain⟨a1,rfl⟩:∃z_,z_=p1:=⟨_,rfl⟩
 obtain⟨a2,rfl⟩:∃z_,z_=p2:=⟨_,rfl⟩
 rw[zb9]at h
 rcases fk h with ⟨h1,h⟩ | ⟨h1,h⟩
 ·cases h
  exact zi Tryd.func25 (zG (zo zF (l:=a1)) (zG (zo zF (l:=a2)) (zk h1 ob))) (by kernel_rfl)
 ·obtain⟨a3 | ⟨a4,a5,a6,a7⟩,h2,h⟩:=sm h
  ·cases h
   exact zi Tryd.func25 (zG (zo zF (l:=a1)) (zG (zo zF (l:=a2)) (zk h1 (zbj (lk (sub [1,1,0,1,0] (zt Tryd.f25)) (by kernel_rfl) (zbv.okL ht n n _ _ _ _ h2)) ob)))) (by kernel_rfl)
  ·cases h
   exact zi Tryd.func25 (zG (zo zF (l:=a1)) (zG (zo zF (l:=a2)) (zk h1 (zbj (lk (sub [1,1,0,1,0] (zt Tryd.f25)) (by kernel_rfl) (zbv.okL ht n n _ _ _ _ h2)) ob)))) (by kernel_rfl)
theorem zaP.okL (ht:TabOk t call) (n:Nat):∀(k:Nat) (a1 a2:List Int) (a3:Int) (r:_),zaP t n k a1 a2 a3=some r→loopN (exec (env Tryd.prog 26 Tryd.f26 call) n (sub [1,1,0,1,0,0] (zt Tryd.f26))) k (mkSt 26 26 [(0,(Sl 1 (zz a1))),(1,(Sl 1 (zz a2))),(5,(I6 a3))] [])=some (zaP.to r)
 | 0,a1,a2,a3,r,h=>by rw[zaP]at h;cases h
 | k+1,a1,a2,a3,r,h=>by
  rw[zaP]at h
  rcases fk h with ⟨h1,h⟩ | ⟨h1,h⟩
  ·obtain⟨h2,h⟩:=ck h
   obtain⟨a4,h3,h⟩:=sm h
   obtain⟨a5,h4,h⟩:=sm h
   rcases fk h with ⟨h5,h⟩ | ⟨h5,h⟩
   ·cases h
    exact zx (path (zG (zo zw (l:=a1)) (zk h1 (zaq h2 (zan (zu zw h3) (zaq h2 (zan (zu zw h4) (zk h5 ob))))))) (by kernel_rfl)) (fun h=>by cases h)
   ·exact zM (path (zG (zo zw (l:=a1)) (zk h1 (zaq h2 (zan (zu zw h3) (zaq h2 (zan (zu zw h4) (zk h5 ob))))))) (by kernel_rfl)) (zaP.okL ht n k _ _ _ _ h)
  ·cases h
   exact zx (path (zG (zo zw (l:=a1)) (zk h1 ob)) (by kernel_rfl)) (fun h=>by cases h)
theorem za2.ok {n:Nat} {t:Tab} (ht:TabOk t (run Tryd.prog own kp X n)):∀(p1:List Int) (p2:List Int) r,za2 t n p1 p2=some r→run Tryd.prog own kp X (n+1) 26 [(Sl 1 (zz p1)),(Sl 1 (zz p2))] []=some ((Bo r),[]):=by
 intro p1 p2 r h
 obtain⟨a1,rfl⟩:∃z_,z_=p1:=⟨_,rfl⟩
 obtain⟨a2,rfl⟩:∃z_,z_=p2:=⟨_,rfl⟩
 rw[za2]at h
 rcases fk h with ⟨h1,h⟩ | ⟨h1,h⟩
 ·cases h
  exact zi Tryd.func26 (zG (zo zw (l:=a1)) (zG (zo zw (l:=a2)) (zk h1 ob))) (by kernel_rfl)
 ·obtain⟨a3 | ⟨a4,a5,a6,a7⟩,h2,h⟩:=sm h
  ·cases h
   exact zi Tryd.func26 (zG (zo zw (l:=a1)) (zG (zo zw (l:=a2)) (zk h1 (zbj (lk (sub [1,1,0,1,0] (zt Tryd.f26)) (by kernel_rfl) (zaP.okL ht n n _ _ _ _ h2)) ob)))) (by kernel_rfl)
  ·cases h
   exact zi Tryd.func26 (zG (zo zw (l:=a1)) (zG (zo zw (l:=a2)) (zk h1 (zbj (lk (sub [1,1,0,1,0] (zt Tryd.f26)) (by kernel_rfl) (zaP.okL ht n n _ _ _ _ h2)) ob)))) (by kernel_rfl)
theorem zb0.ok {n:Nat} {t:Tab} (ht:TabOk t (run Tryd.prog own kp X n)):∀(p1:zh) (p2:zh) r,zb0 t n p1 p2=some r→run Tryd.prog own kp X (n+1) 27 [(.t (zh.t p1)),(.t (zh.t p2))] []=some ((Bo r),[]):=by
 intro p1 p2 r h
 obtain⟨a1,a2,a3,a4,a5⟩:=p1
 obtain⟨a6,a7,a8,a9,a10⟩:=p2
 rw[zb0]at h
 obtain⟨a11,h1,h⟩:=sm h
 cases h
 exact zi Tryd.func27 (zaa (ht.zaJ _ _ _ _ h1) ob) (by kernel_rfl)
theorem zb1.okL (ht:TabOk t call) (n:Nat):∀(k:Nat) (a1 a2:Int) (a3:List zh) (a4:List GPred) (a5:Int) (a6:List zh) (a7:List GPred) (r:_),zb1 t n k a1 a2 a3 a4 a5 a6 a7=some r→loopN (exec (env Tryd.prog 28 Tryd.f28 call) n (sub [1,1,0,1,0,0] (zt Tryd.f28))) k (mkSt 47 47 [(2,(.ptr 2 0 [] 0)),(3,(.ptr 3 0 [] 0)),(5,(I6 a1))] [(2,(.t (.st [(.v (.int .i64 a2)),(.sl false 5 (zh.ts a3)),(.sl false 3 (GPred.ts a4))]))),(3,(.t (.st [(.v (.int .i64 a5)),(.sl false 5 (zh.ts a6)),(.sl false 3 (GPred.ts a7))])))])=some (zb1.to r)
 | 0,a1,a2,a3,a4,a5,a6,a7,r,h=>by rw[zb1]at h;cases h
 | k+1,a1,a2,a3,a4,a5,a6,a7,r,h=>by
  rw[zb1]at h
  rcases fk h with ⟨h1,h⟩ | ⟨h1,h⟩
  ·obtain⟨h2,h⟩:=ck h
   obtain⟨⟨a8,a9,a10⟩,h3,h⟩:=sm h
   obtain⟨⟨a11,a12,a13⟩,h4,h⟩:=sm h
   obtain⟨a14,h5,h⟩:=sm h
   have o7 {os} (x:Obls (env Tryd.prog 28 Tryd.f28 call) n os):=zG (zo GPred.zl (l:=a4)) (zk h1 (zaq h2 (zan (zu GPred.zl h3) (zaq h2 (zan (zu GPred.zl h4) (zaa (ht.zbI _ _ _ h5) x))))))
   rcases fk h with ⟨h6,h⟩ | ⟨h6,h⟩
   ·exact zM (path (o7 (zk (ng h6) ob)) (by kernel_rfl)) (zb1.okL ht n k _ _ _ _ _ _ _ _ h)
   ·cases h
    exact zx (path (o7 (zk (ng h6) ob)) (by kernel_rfl)) (fun h=>by cases h)
  ·cases h
   exact zx (path (zG (zo GPred.zl (l:=a4)) (zk h1 ob)) (by kernel_rfl)) (fun h=>by cases h)
theorem zdK.ok (ht:TabOk t call) (n:Nat) (a1:Int) (a2:List zh) (a3:List GPred) (a4:Int) (a5:List zh) (a6:List GPred) (r:_) (h:zdK t n a1 a2 a3 a4 a5 a6=some r):exec (env Tryd.prog 28 Tryd.f28 call) n (sub [1,1] (zt Tryd.f28)) (mkSt 47 47 [(2,(.ptr 2 0 [] 0)),(3,(.ptr 3 0 [] 0))] [(2,(.t (.st [(.v (.int .i64 a1)),(.sl false 5 (zh.ts a2)),(.sl false 3 (GPred.ts a3))]))),(3,(.t (.st [(.v (.int .i64 a4)),(.sl false 5 (zh.ts a5)),(.sl false 3 (GPred.ts a6))])))])=some (zdK.to r):=by
 rw[zdK]at h
 obtain⟨a7 | ⟨a8,a9,a10,a11,a12,a13,a14,a15⟩,h1,h⟩:=sm h
 ·cases h
  exact path (zbj (lk (sub [1,1,0,1,0] (zt Tryd.f28)) (by kernel_rfl) (zb1.okL ht n n _ _ _ _ _ _ _ _ h1)) ob) (by kernel_rfl)
 ·cases h
  exact path (zbj (lk (sub [1,1,0,1,0] (zt Tryd.f28)) (by kernel_rfl) (zb1.okL ht n n _ _ _ _ _ _ _ _ h1)) ob) (by kernel_rfl)
theorem zbI.ok {n:Nat} {t:Tab} (ht:TabOk t (run Tryd.prog own kp X n)):∀(p1:GPred) (p2:GPred) r,zbI t n p1 p2=some r→run Tryd.prog own kp X (n+1) 28 [(.t (GPred.t p1)),(.t (GPred.t p2))] []=some ((Bo r),[]):=by
 intro p1 p2 r h
 obtain⟨a1,a2,a3⟩:=p1
 obtain⟨a4,a5,a6⟩:=p2
 rw[zbI]at h
 rcases fk h with ⟨h1,h⟩ | ⟨h1,h⟩
 ·cases h
  exact zi Tryd.func28 (zax h1 7 (zdp 9 ob)) (by kernel_rfl)
 ·obtain⟨a7,h2,h⟩:=sm h
  have o8 {os} (x:Obls (env Tryd.prog 28 Tryd.f28 (run Tryd.prog own kp X n)) n os):=zax h1 5 (zaa (ht.zbO _ _ _ h2) (zaG h1 x))
  rcases fk h with ⟨h3,h⟩ | ⟨h3,h⟩
  ·have o18 {os} (x:Obls (env Tryd.prog 28 Tryd.f28 (run Tryd.prog own kp X n)) n os):=o8 (zV (ng h3) (zG (zo GPred.zl (l:=a3)) (zV (ng h3) (zG (zo GPred.zl (l:=a6)) (zaG (ng h3) x)))))
   rcases fk h with ⟨h4,h⟩ | ⟨h4,h⟩
   ·cases h
    exact zi Tryd.func28 (o18 (zk h4 ob)) (by kernel_rfl)
   ·obtain⟨a8,rfl⟩:∃z_,z_=r:=⟨_,rfl⟩
    have h5:=h
    exact zi Tryd.func28 (o18 (zk h4 (zau (zdK.ok ht n _ _ _ _ _ _ _ h5) ob))) (by kernel_rfl)
  ·cases h
   exact zi Tryd.func28 (o8 (zax (ng h3) 8 (zdp 1 ob))) (by kernel_rfl)
theorem zaI.okL (ht:TabOk t call) (n:Nat):∀(k:Nat) (a1 a2:List ByteArray) (a3:Int) (r:_),zaI t n k a1 a2 a3=some r→loopN (exec (env Tryd.prog 29 Tryd.f29 call) n (sub [1,1,0,1,0,0] (zt Tryd.f29))) k (mkSt 26 26 [(0,(Sl 1 (texts a1))),(1,(Sl 1 (texts a2))),(5,(I6 a3))] [])=some (zaI.to r)
 | 0,a1,a2,a3,r,h=>by rw[zaI]at h;cases h
 | k+1,a1,a2,a3,r,h=>by
  rw[zaI]at h
  rcases fk h with ⟨h1,h⟩ | ⟨h1,h⟩
  ·obtain⟨h2,h⟩:=ck h
   obtain⟨a4,h3,h⟩:=sm h
   obtain⟨a5,h4,h⟩:=sm h
   rcases fk h with ⟨h5,h⟩ | ⟨h5,h⟩
   ·exact zM (path (zG (zo zF (l:=a1)) (zk h1 (zaq h2 (zan (zu zF h3) (zaq h2 (zan (zu zF h4) (zk (ng h5) ob))))))) (by kernel_rfl)) (zaI.okL ht n k _ _ _ _ h)
   ·cases h
    exact zx (path (zG (zo zF (l:=a1)) (zk h1 (zaq h2 (zan (zu zF h3) (zaq h2 (zan (zu zF h4) (zk (ng h5) ob))))))) (by kernel_rfl)) (fun h=>by cases h)
  ·cases h
   exact zx (path (zG (zo zF (l:=a1)) (zk h1 ob)) (by kernel_rfl)) (fun h=>by cases h)
theorem zaO.ok {n:Nat} {t:Tab} (ht:TabOk t (run Tryd.prog own kp X n)):∀(p1:List ByteArray) (p2:List ByteArray) r,zaO t n p1 p2=some r→run Tryd.prog own kp X (n+1) 29 [(Sl 1 (texts p1)),(Sl 1 (texts p2))] []=some ((Bo r),[]):=by
 intro p1 p2 r h
 obtain⟨a1,rfl⟩:∃z_,z_=p1:=⟨_,rfl⟩
 obtain⟨a2,rfl⟩:∃z_,z_=p2:=⟨_,rfl⟩
 rw[zaO]at h
 rcases fk h with ⟨h1,h⟩ | ⟨h1,h⟩
 ·cases h
  exact zi Tryd.func29 (zG (zo zF (l:=a1)) (zG (zo zF (l:=a2)) (zk h1 ob))) (by kernel_rfl)
 ·obtain⟨a3 | ⟨a4,a5,a6,a7⟩,h2,h⟩:=sm h
  ·cases h
   exact zi Tryd.func29 (zG (zo zF (l:=a1)) (zG (zo zF (l:=a2)) (zk h1 (zbj (lk (sub [1,1,0,1,0] (zt Tryd.f29)) (by kernel_rfl) (zaI.okL ht n n _ _ _ _ h2)) ob)))) (by kernel_rfl)
  ·cases h
   exact zi Tryd.func29 (zG (zo zF (l:=a1)) (zG (zo zF (l:=a2)) (zk h1 (zbj (lk (sub [1,1,0,1,0] (zt Tryd.f29)) (by kernel_rfl) (zaI.okL ht n n _ _ _ _ h2)) ob)))) (by kernel_rfl)
theorem zaw.okL (ht:TabOk t call) (n:Nat):∀(k:Nat) (a1 a2:List Int) (a3:Int) (r:_),zaw t n k a1 a2 a3=some r→loopN (exec (env Tryd.prog 30 Tryd.f30 call) n (sub [1,1,0,1,0,0] (zt Tryd.f30))) k (mkSt 26 26 [(0,(Sl 1 (zz a1))),(1,(Sl 1 (zz a2))),(5,(I6 a3))] [])=some (zaw.to r)
 | 0,a1,a2,a3,r,h=>by rw[zaw]at h;cases h
 | k+1,a1,a2,a3,r,h=>by
  rw[zaw]at h
  rcases fk h with ⟨h1,h⟩ | ⟨h1,h⟩
  ·obtain⟨h2,h⟩:=ck h
   obtain⟨a4,h3,h⟩:=sm h
   obtain⟨a5,h4,h⟩:=sm h
   rcases fk h with ⟨h5,h⟩ | ⟨h5,h⟩
   ·cases h
    exact zx (path (zG (zo zw (l:=a1)) (zk h1 (zaq h2 (zan (zu zw h3) (zaq h2 (zan (zu zw h4) (zk h5 ob))))))) (by kernel_rfl)) (fun h=>by cases h)
   ·exact zM (path (zG (zo zw (l:=a1)) (zk h1 (zaq h2 (zan (zu zw h3) (zaq h2 (zan (zu zw h4) (zk h5 ob))))))) (by kernel_rfl)) (zaw.okL ht n k _ _ _ _ h)
  ·cases h
   exact zx (path (zG (zo zw (l:=a1)) (zk h1 ob)) (by kernel_rfl)) (fun h=>by cases h)
theorem zaQ.ok {n:Nat} {t:Tab} (ht:TabOk t (run Tryd.prog own kp X n)):∀(p1:List Int) (p2:List Int) r,zaQ t n p1 p2=some r→run Tryd.prog own kp X (n+1) 30 [(Sl 1 (zz p1)),(Sl 1 (zz p2))] []=some ((Bo r),[]):=by
 intro p1 p2 r h
 obtain⟨a1,rfl⟩:∃z_,z_=p1:=⟨_,rfl⟩
 obtain⟨a2,rfl⟩:∃z_,z_=p2:=⟨_,rfl⟩
 rw[zaQ]at h
 rcases fk h with ⟨h1,h⟩ | ⟨h1,h⟩
 ·cases h
  exact zi Tryd.func30 (zG (zo zw (l:=a1)) (zG (zo zw (l:=a2)) (zk h1 ob))) (by kernel_rfl)
 ·obtain⟨a3 | ⟨a4,a5,a6,a7⟩,h2,h⟩:=sm h
  ·cases h
   exact zi Tryd.func30 (zG (zo zw (l:=a1)) (zG (zo zw (l:=a2)) (zk h1 (zbj (lk (sub [1,1,0,1,0] (zt Tryd.f30)) (by kernel_rfl) (zaw.okL ht n n _ _ _ _ h2)) ob)))) (by kernel_rfl)
  ·cases h
   exact zi Tryd.func30 (zG (zo zw (l:=a1)) (zG (zo zw (l:=a2)) (zk h1 (zbj (lk (sub [1,1,0,1,0] (zt Tryd.f30)) (by kernel_rfl) (zaw.okL ht n n _ _ _ _ h2)) ob)))) (by kernel_rfl)
theorem zcW.ok (ht:TabOk t call) (n:Nat) (a1 a2 a3 a4 a5:Int) (a6:ByteArray) (a7 a8:List zh) (r:_) (h:zcW t n a1 a2 a3 a4 a5 a6 a7 a8=some r):exec (env Tryd.prog 33 Tryd.f33 call) n (sub [1,1,0,1,0,0,1] (zt Tryd.f33)) (mkSt 60 60 [(1,(I6 a1)),(2,(.ptr 2 0 [] 0)),(5,(I6 a2)),(6,(I6 a3))] [(2,(.t (.st [(.v (.int .i64 a4)),(.v (.int .i64 a5)),(.v (.string a6)),(.sl false 5 (zh.ts a7)),(.sl false 5 (zh.ts a8))])))])=some (zcW.to r):=by
 rw[zcW]at h
 obtain⟨h1,h⟩:=ck h
 obtain⟨⟨a9,a10,a11,a12,a13⟩,h2,h⟩:=sm h
 obtain⟨a14,h3,h⟩:=sm h
 cases h
 exact path (zaq h1 (zan (zu zh.zl h2) (zaa (ht.zbD _ _ _ h3) ob))) (by kernel_rfl)
theorem zbL.okL (ht:TabOk t call) (n:Nat):∀(k:Nat) (a1 a2 a3 a4 a5:Int) (a6:ByteArray) (a7 a8:List zh) (r:_),zbL t n k a1 a2 a3 a4 a5 a6 a7 a8=some r→loopN (exec (env Tryd.prog 33 Tryd.f33 call) n (sub [1,1,0,1,0,0] (zt Tryd.f33))) k (mkSt 60 60 [(1,(I6 a1)),(2,(.ptr 2 0 [] 0)),(5,(I6 a2)),(6,(I6 a3))] [(2,(.t (.st [(.v (.int .i64 a4)),(.v (.int .i64 a5)),(.v (.string a6)),(.sl false 5 (zh.ts a7)),(.sl false 5 (zh.ts a8))])))])=some (zbL.to r)
 | 0,a1,a2,a3,a4,a5,a6,a7,a8,r,h=>by rw[zbL]at h;cases h
 | k+1,a1,a2,a3,a4,a5,a6,a7,a8,r,h=>by
  rw[zbL]at h
  rcases fk h with ⟨h1,h⟩ | ⟨h1,h⟩
  ·rcases fk h with ⟨h2,h⟩ | ⟨h2,h⟩
   ·obtain⟨⟨a9,a10,a11,a12,a13,a14,a15,a16⟩,h3,h⟩:=sm h
    exact zM (path (zG (zo zh.zl (l:=a7)) (za1 h1 (zk h2 (zau (zcW.ok ht n _ _ _ _ _ _ _ _ _ h3) ob)))) (by kernel_rfl)) (zbL.okL ht n k _ _ _ _ _ _ _ _ _ h)
   ·cases h
    exact zx (path (zG (zo zh.zl (l:=a7)) (za1 h1 (zk h2 ob))) (by kernel_rfl)) (fun h=>by cases h)
  ·cases h
   exact zx (path (zG (zo zh.zl (l:=a7)) (za1 h1 (zk (rfl:false=false) ob))) (by kernel_rfl)) (fun h=>by cases h)
theorem zcX.ok (ht:TabOk t call) (n:Nat) (a1 a2 a3 a4 a5:Int) (a6:ByteArray) (a7 a8:List zh) (r:_) (h:zcX t n a1 a2 a3 a4 a5 a6 a7 a8=some r):exec (env Tryd.prog 33 Tryd.f33 call) n (sub [1,1,1,0,1,0,0,1] (zt Tryd.f33)) (mkSt 60 60 [(1,(I6 a1)),(2,(.ptr 2 0 [] 0)),(5,(I6 a2)),(7,(I6 a3))] [(2,(.t (.st [(.v (.int .i64 a4)),(.v (.int .i64 a5)),(.v (.string a6)),(.sl false 5 (zh.ts a7)),(.sl false 5 (zh.ts a8))])))])=some (zcX.to r):=by
 rw[zcX]at h
 obtain⟨h1,h⟩:=ck h
 obtain⟨⟨a9,a10,a11,a12,a13⟩,h2,h⟩:=sm h
 obtain⟨a14,h3,h⟩:=sm h
 cases h
 exact path (zaq h1 (zan (zu zh.zl h2) (zaa (ht.zbD _ _ _ h3) ob))) (by kernel_rfl)
theorem zbM.okL (ht:TabOk t call) (n:Nat):∀(k:Nat) (a1 a2 a3 a4 a5:Int) (a6:ByteArray) (a7 a8:List zh) (r:_),zbM t n k a1 a2 a3 a4 a5 a6 a7 a8=some r→loopN (exec (env Tryd.prog 33 Tryd.f33 call) n (sub [1,1,1,0,1,0,0] (zt Tryd.f33))) k (mkSt 60 60 [(1,(I6 a1)),(2,(.ptr 2 0 [] 0)),(5,(I6 a2)),(7,(I6 a3))] [(2,(.t (.st [(.v (.int .i64 a4)),(.v (.int .i64 a5)),(.v (.string a6)),(.sl false 5 (zh.ts a7)),(.sl false 5 (zh.ts a8))])))])=some (zbM.to r)
 | 0,a1,a2,a3,a4,a5,a6,a7,a8,r,h=>by rw[zbM]at h;cases h
 | k+1,a1,a2,a3,a4,a5,a6,a7,a8,r,h=>by
  rw[zbM]at h
  rcases fk h with ⟨h1,h⟩ | ⟨h1,h⟩
  ·rcases fk h with ⟨h2,h⟩ | ⟨h2,h⟩
   ·obtain⟨⟨a9,a10,a11,a12,a13,a14,a15,a16⟩,h3,h⟩:=sm h
    exact zM (path (zG (zo zh.zl (l:=a8)) (za1 h1 (zk h2 (zau (zcX.ok ht n _ _ _ _ _ _ _ _ _ h3) ob)))) (by kernel_rfl)) (zbM.okL ht n k _ _ _ _ _ _ _ _ _ h)
   ·cases h
    exact zx (path (zG (zo zh.zl (l:=a8)) (za1 h1 (zk h2 ob))) (by kernel_rfl)) (fun h=>by cases h)
  ·cases h
   exact zx (path (zG (zo zh.zl (l:=a8)) (za1 h1 (zk (rfl:false=false) ob))) (by kernel_rfl)) (fun h=>by cases h)
theorem zdE.ok (ht:TabOk t call) (n:Nat) (a1 a2 a3:Int) (a4:ByteArray) (a5 a6:List zh) (r:_) (h:zdE t n a1 a2 a3 a4 a5 a6=some r):exec (env Tryd.prog 33 Tryd.f33 call) n (sub [1,1,1,1] (zt Tryd.f33)) (mkSt 60 60 [(2,(.ptr 2 0 [] 0)),(5,(I6 a1))] [(2,(.t (.st [(.v (.int .i64 a2)),(.v (.int .i64 a3)),(.v (.string a4)),(.sl false 5 (zh.ts a5)),(.sl false 5 (zh.ts a6))])))])=some (zdE.to r):=by
 rw[zdE]at h
 obtain⟨a7,h1,h⟩:=sm h
 cases h
 exact path (zG (zpO (P:=Tryd.prog) (t:=3) (x:=(.tmp 57)) (y:=(.const (.int .i64 20))) h1) ob) (by kernel_rfl)
theorem zdF.ok (ht:TabOk t call) (n:Nat) (a1 a2 a3 a4:Int) (a5:ByteArray) (a6 a7:List zh) (r:_) (h:zdF t n a1 a2 a3 a4 a5 a6 a7=some r):exec (env Tryd.prog 33 Tryd.f33 call) n (sub [1,1,1] (zt Tryd.f33)) (mkSt 60 60 [(1,(I6 a1)),(2,(.ptr 2 0 [] 0)),(5,(I6 a2))] [(2,(.t (.st [(.v (.int .i64 a3)),(.v (.int .i64 a4)),(.v (.string a5)),(.sl false 5 (zh.ts a6)),(.sl false 5 (zh.ts a7))])))])=some (zdF.to r):=by
 rw[zdF]at h
 obtain⟨⟨a8,a9,a10,a11,a12,a13,a14,a15,a16⟩,h1,h⟩:=sm h
 obtain⟨a17,rfl⟩:∃z_,z_=r:=⟨_,rfl⟩
 have h2:=h
 exact path (zbj (lk (sub [1,1,1,0,1,0] (zt Tryd.f33)) (by kernel_rfl) (zbM.okL ht n n _ _ _ _ _ _ _ _ _ h1)) (zau (zdE.ok ht n _ _ _ _ _ _ _ h2) ob)) (by kernel_rfl)
theorem zbD.ok {n:Nat} {t:Tab} (ht:TabOk t (run Tryd.prog own kp X n)):∀(p1:zh) (p2:Int) r,zbD t n p1 p2=some r→run Tryd.prog own kp X (n+1) 33 [(.t (zh.t p1)),(I6 p2)] []=some ((I6 r),[]):=by
 intro p1 p2 r h
 obtain⟨a1,a2,a3,a4,a5⟩:=p1
 obtain⟨a6,rfl⟩:∃z_,z_=p2:=⟨_,rfl⟩
 rw[zbD]at h
 obtain⟨⟨a7,a8,a9,a10,a11,a12,a13,a14,a15⟩,h1,h⟩:=sm h
 obtain⟨a16,rfl⟩:∃z_,z_=r:=⟨_,rfl⟩
 have h2:=h
 exact zi Tryd.func33 (zbj (lk (sub [1,1,0,1,0] (zt Tryd.f33)) (by kernel_rfl) (zbL.okL ht n n _ _ _ _ _ _ _ _ _ h1)) (zau (zdF.ok ht n _ _ _ _ _ _ _ _ h2) ob)) (by kernel_rfl)
theorem zcY.ok (ht:TabOk t call) (n:Nat) (a1 a2 a3 a4:Int) (a5:List zh) (a6:List GPred) (r:_) (h:zcY t n a1 a2 a3 a4 a5 a6=some r):exec (env Tryd.prog 34 Tryd.f34 call) n (sub [1,1,0,1,0,0,1] (zt Tryd.f34)) (mkSt 36 36 [(1,(I6 a1)),(2,(.ptr 2 0 [] 0)),(5,(I6 a2)),(6,(I6 a3))] [(2,(.t (.st [(.v (.int .i64 a4)),(.sl false 5 (zh.ts a5)),(.sl false 3 (GPred.ts a6))])))])=some (zcY.to r):=by
 rw[zcY]at h
 obtain⟨h1,h⟩:=ck h
 obtain⟨⟨a7,a8,a9⟩,h2,h⟩:=sm h
 obtain⟨a10,h3,h⟩:=sm h
 cases h
 exact path (zaq h1 (zan (zu GPred.zl h2) (zaa (ht.zcJ _ _ _ h3) ob))) (by kernel_rfl)
theorem zbN.okL (ht:TabOk t call) (n:Nat):∀(k:Nat) (a1 a2 a3 a4:Int) (a5:List zh) (a6:List GPred) (r:_),zbN t n k a1 a2 a3 a4 a5 a6=some r→loopN (exec (env Tryd.prog 34 Tryd.f34 call) n (sub [1,1,0,1,0,0] (zt Tryd.f34))) k (mkSt 36 36 [(1,(I6 a1)),(2,(.ptr 2 0 [] 0)),(5,(I6 a2)),(6,(I6 a3))] [(2,(.t (.st [(.v (.int .i64 a4)),(.sl false 5 (zh.ts a5)),(.sl false 3 (GPred.ts a6))])))])=some (zbN.to r)
 | 0,a1,a2,a3,a4,a5,a6,r,h=>by rw[zbN]at h;cases h
 | k+1,a1,a2,a3,a4,a5,a6,r,h=>by
  rw[zbN]at h
  rcases fk h with ⟨h1,h⟩ | ⟨h1,h⟩
  ·rcases fk h with ⟨h2,h⟩ | ⟨h2,h⟩
   ·obtain⟨⟨a7,a8,a9,a10,a11,a12⟩,h3,h⟩:=sm h
    exact zM (path (zG (zo GPred.zl (l:=a6)) (za1 h1 (zk h2 (zau (zcY.ok ht n _ _ _ _ _ _ _ h3) ob)))) (by kernel_rfl)) (zbN.okL ht n k _ _ _ _ _ _ _ h)
   ·cases h
    exact zx (path (zG (zo GPred.zl (l:=a6)) (za1 h1 (zk h2 ob))) (by kernel_rfl)) (fun h=>by cases h)
  ·cases h
   exact zx (path (zG (zo GPred.zl (l:=a6)) (za1 h1 (zk (rfl:false=false) ob))) (by kernel_rfl)) (fun h=>by cases h)
theorem zcJ.ok {n:Nat} {t:Tab} (ht:TabOk t (run Tryd.prog own kp X n)):∀(p1:GPred) (p2:Int) r,zcJ t n p1 p2=some r→run Tryd.prog own kp X (n+1) 34 [(.t (GPred.t p1)),(I6 p2)] []=some ((I6 r),[]):=by
 intro p1 p2 r h
 obtain⟨a1,a2,a3⟩:=p1
 obtain⟨a4,rfl⟩:∃z_,z_=p2:=⟨_,rfl⟩
 rw[zcJ]at h
 obtain⟨a5,h1,h⟩:=sm h
 obtain⟨⟨a6,a7,a8,a9,a10,a11,a12⟩,h2,h⟩:=sm h
 cases h
 exact zi Tryd.func34 (zaa (ht.zdr _ _ _ h1) (zbj (lk (sub [1,1,0,1,0] (zt Tryd.f34)) (by kernel_rfl) (zbN.okL ht n n _ _ _ _ _ _ _ h2)) ob)) (by kernel_rfl)
theorem zbw.ok (ht:TabOk t call) (n:Nat) (a1:List (List GStep)) (a2:Int) (a3:Bool) (a4:Int) (a5:List ByteArray) (a6:List Int) (a7 a8:Int) (a9:ByteArray) (a10 a11:List zh) (a12:Int) (a13:List zh) (a14:List GPred) (a15:List (List GStep)) (a16:List GBy) (a17:List ByteArray) (r:_) (h:zbw t n a1 a2 a3 a4 a5 a6 a7 a8 a9 a10 a11 a12 a13 a14 a15 a16 a17=some r):exec (env Tryd.prog 35 Tryd.f35 call) n (sub [1,1,1,0,1,0,0,1,0,0,1] (zt Tryd.f35)) (mkSt 43 43 [(1,(.ptr 1 0 [] 0)),(3,(.t (.sl true 1 (zq a1)))),(4,(I6 a2)),(32,(Bo a3))] [(1,(.t (.st [(.v (.int .i64 a4)),(.sl false 1 (texts a5)),(.sl false 1 (zz a6)),(.st [(.v (.int .i64 a7)),(.v (.int .i64 a8)),(.v (.string a9)),(.sl false 5 (zh.ts a10)),(.sl false 5 (zh.ts a11))]),(.st [(.v (.int .i64 a12)),(.sl false 5 (zh.ts a13)),(.sl false 3 (GPred.ts a14))]),(.sl false 1 (zq a15)),(.sl false 4 (GBy.ts a16)),(.sl false 1 (texts a17))])))])=some (zbw.to r):=by
 rw[zbw]at h
 rcases fk h with ⟨h1,h⟩ | ⟨h1,h⟩
 ·obtain⟨h2,h⟩:=ck h
  obtain⟨⟨a18,a19,a20,a21⟩,h3,h⟩:=sm h
  obtain⟨h4,h⟩:=cl h
  cases h
  exact path (zk h1 (zaq h2 (zan (zu GBy.zl h3) (zeT (zdT zy h4) (zfb (zd7 zy (a:=a1) (b:=([a20]:List (List GStep)))) ob))))) (by kernel_rfl)
 ·cases h
  exact path (zk h1 ob) (by kernel_rfl)
theorem zbx.okL (ht:TabOk t call) (n:Nat):∀(k:Nat) (a1:List (List GStep)) (a2 a3:Int) (a4:List ByteArray) (a5:List Int) (a6 a7:Int) (a8:ByteArray) (a9 a10:List zh) (a11:Int) (a12:List zh) (a13:List GPred) (a14:List (List GStep)) (a15:List GBy) (a16:List ByteArray) (r:_),zbx t n k a1 a2 a3 a4 a5 a6 a7 a8 a9 a10 a11 a12 a13 a14 a15 a16=some r→loopN (exec (env Tryd.prog 35 Tryd.f35 call) n (sub [1,1,1,0,1,0,0] (zt Tryd.f35))) k (mkSt 43 43 [(1,(.ptr 1 0 [] 0)),(3,(.t (.sl true 1 (zq a1)))),(4,(I6 a2))] [(1,(.t (.st [(.v (.int .i64 a3)),(.sl false 1 (texts a4)),(.sl false 1 (zz a5)),(.st [(.v (.int .i64 a6)),(.v (.int .i64 a7)),(.v (.string a8)),(.sl false 5 (zh.ts a9)),(.sl false 5 (zh.ts a10))]),(.st [(.v (.int .i64 a11)),(.sl false 5 (zh.ts a12)),(.sl false 3 (GPred.ts a13))]),(.sl false 1 (zq a14)),(.sl false 4 (GBy.ts a15)),(.sl false 1 (texts a16))])))])=some (zbx.to r)
 | 0,a1,a2,a3,a4,a5,a6,a7,a8,a9,a10,a11,a12,a13,a14,a15,a16,r,h=>by rw[zbx]at h;cases h
 | k+1,a1,a2,a3,a4,a5,a6,a7,a8,a9,a10,a11,a12,a13,a14,a15,a16,r,h=>by
  rw[zbx]at h
  rcases fk h with ⟨h1,h⟩ | ⟨h1,h⟩
  ·obtain⟨h2,h⟩:=ck h
   obtain⟨⟨a17,a18,a19,a20⟩,h3,h⟩:=sm h
   rcases fk h with ⟨h4,h⟩ | ⟨h4,h⟩
   ·obtain⟨⟨a21,a22,a23,a24,a25,a26,a27,a28,a29,a30,a31,a32,a33,a34,a35,a36⟩,h5,h⟩:=sm h
    exact zM (path (zG (zo GBy.zl (l:=a15)) (zk h1 (zaq h2 (zan (zu GBy.zl h3) (zax h4 9 (zau (zbw.ok ht n _ _ _ _ _ _ _ _ _ _ _ _ _ _ _ _ _ _ h5) ob)))))) (by kernel_rfl)) (zbx.okL ht n k _ _ _ _ _ _ _ _ _ _ _ _ _ _ _ _ _ h)
   ·obtain⟨⟨a37,a38,a39,a40,a41,a42,a43,a44,a45,a46,a47,a48,a49,a50,a51,a52⟩,h6,h⟩:=sm h
    exact zM (path (zG (zo GBy.zl (l:=a15)) (zk h1 (zaq h2 (zan (zu GBy.zl h3) (za1 h4 (zaq h2 (zan (zu GBy.zl h3) (zV h4 (zG (zo GStep.zl (l:=a19)) (zaG h4 (zau (zbw.ok ht n _ _ _ _ _ _ _ _ _ _ _ _ _ _ _ _ _ _ h6) ob))))))))))) (by kernel_rfl)) (zbx.okL ht n k _ _ _ _ _ _ _ _ _ _ _ _ _ _ _ _ _ h)
  ·cases h
   exact zx (path (zG (zo GBy.zl (l:=a15)) (zk h1 ob)) (by kernel_rfl)) (fun h=>by cases h)
theorem zc8.ok {n:Nat} {t:Tab} (ht:TabOk t (run Tryd.prog own kp X n)):∀(p1:GStep) r,zc8 t n p1=some r→run Tryd.prog own kp X (n+1) 35 [(.t (GStep.t p1))] []=some ((Sl 1 (zq r)),[]):=by
 intro p1 r h
 obtain⟨a1,a2,a3,⟨a4,a5,a6,a7,a8⟩,⟨a9,a10,a11⟩,a12,a13,a14⟩:=p1
 rw[zc8]at h
 obtain⟨h1,h⟩:=cl h
 obtain⟨⟨a15,a16,a17,a18,a19,a20,a21,a22,a23,a24,a25,a26,a27,a28,a29,a30,a31⟩,h2,h⟩:=sm h
 cases h
 exact zi Tryd.func35 (zeT (zdT zy h1) (zfb (zd7 zy (a:=([]:List (List GStep))) (b:=a12)) (zbj (lk (sub [1,1,1,0,1,0] (zt Tryd.f35)) (by kernel_rfl) (zbx.okL ht n n _ _ _ _ _ _ _ _ _ _ _ _ _ _ _ _ _ h2)) ob))) (by kernel_rfl)
theorem za6.okL (ht:TabOk t call) (n:Nat):∀(k:Nat) (a1:List GStep) (a2:List GCode) (a3 a4:Int) (a5:List Int) (a6 a7:Int) (u8:GCode) (a22:Int) (a23:List ByteArray) (a24:List Int) (u12:zh) (u13:GPred) (a33:List (List GStep)) (a34:List GBy) (a35:List ByteArray) (u17:zD) (r:_),za6 t n k a1 a2 a3 a4 a5 a6 a7 u8 a22 a23 a24 u12 u13 a33 a34 a35 u17=some r→loopN (exec (env Tryd.prog 32 Tryd.f32 call) n (sub [1,1,1,1,0,1,0,0,1,1,0,0,1,1,0,1,0,0] (zt Tryd.f32))) k (mkSt 132 133 [(0,(.ptr 132 0 [] 0)),(6,(.t (.sl true 14 (GStep.ts a1)))),(8,(.ptr 8 0 [] 0)),(9,(.ptr 9 0 [] 0)),(47,(Sl 14 (GCode.ts a2))),(48,(I6 a3)),(49,(I6 a4)),(67,(Sl 1 (zz a5))),(68,(I6 a6)),(69,(I6 a7))] [(8,(.t (GCode.t u8))),(9,(.t (.st [(.v (.int .i64 a22)),(.sl false 1 (texts a23)),(.sl false 1 (zz a24)),(zh.t u12),(GPred.t u13),(.sl true 1 (zq a33)),(.sl true 4 (GBy.ts a34)),(.sl false 1 (texts a35))]))),(132,(.t (zD.t u17)))])=some (za6.to r)
 | 0,a1,a2,a3,a4,a5,a6,a7,u8,a22,a23,a24,u12,u13,a33,a34,a35,u17,r,h=>by rw[za6]at h;cases h
 | k+1,a1,a2,a3,a4,a5,a6,a7,⟨a8,a9,a10,⟨a11,a12,a13,a14,a15⟩,⟨a16,a17,a18⟩,a19,a20,a21⟩,a22,a23,a24,⟨a25,a26,a27,a28,a29⟩,⟨a30,a31,a32⟩,a33,a34,a35,⟨a36,a37⟩,r,h=>by
  rw[za6]at h
  rcases fk h with ⟨h1,h⟩ | ⟨h1,h⟩
  ·obtain⟨h2,h⟩:=ck h
   obtain⟨a38,h3,h⟩:=sm h
   obtain⟨⟨a39,a40,⟨a41,a42⟩⟩,h4,h⟩:=sm h
   rcases fk h with ⟨h5,h⟩ | ⟨h5,h⟩
   ·obtain⟨h6,h⟩:=cl h
    exact zM (path (zk h1 (zaq h2 (zan (zu zw h3) (zaa (ht.zaM _ _ _ h4) (zk (ng h5) (zeT (zdT zy h6) (zfb (zd7 zy (a:=a33) (b:=([a39]:List (List GStep)))) ob))))))) (by kernel_rfl)) (za6.okL ht n k _ _ _ _ _ _ _ _ _ _ _ _ _ _ _ _ _ _ h)
   ·cases h
    exact zx (path (zk h1 (zaq h2 (zan (zu zw h3) (zaa (ht.zaM _ _ _ h4) (zk (ng h5) ob))))) (by kernel_rfl)) (fun h=>by cases h)
  ·cases h
   exact zx (path (zk h1 ob) (by kernel_rfl)) (fun h=>by cases h)
theorem za7.ok (ht:TabOk t call) (n:Nat) (a1:List GStep) (a2:List GCode) (a3 a4:Int) (a5:List GKey) (a6 a7 a8:Int) (a9:List ByteArray) (a10:List Int) (u11:zh) (u12:GPred) (a19:List (List GStep)) (a20:List GBy) (a21:List ByteArray) (u16:GBy) (u17:zD) (r:_) (h:za7 t n a1 a2 a3 a4 a5 a6 a7 a8 a9 a10 u11 u12 a19 a20 a21 u16 u17=some r):exec (env Tryd.prog 32 Tryd.f32 call) n (sub [1,1,1,1,0,1,0,0,1,1,0,0,1,1,1,0,1,0,0,1,1,0,0,1,1,1] (zt Tryd.f32)) (mkSt 132 133 [(0,(.ptr 132 0 [] 0)),(6,(.t (.sl true 14 (GStep.ts a1)))),(9,(.ptr 9 0 [] 0)),(16,(.ptr 16 0 [] 0)),(47,(Sl 14 (GCode.ts a2))),(48,(I6 a3)),(49,(I6 a4)),(89,(Sl 4 (GKey.ts a5))),(90,(I6 a6)),(91,(I6 a7))] [(9,(.t (.st [(.v (.int .i64 a8)),(.sl false 1 (texts a9)),(.sl false 1 (zz a10)),(zh.t u11),(GPred.t u12),(.sl true 1 (zq a19)),(.sl true 4 (GBy.ts a20)),(.sl false 1 (texts a21))]))),(16,(.t (GBy.t u16))),(132,(.t (zD.t u17)))])=some (za7.to r):=by
 obtain⟨a11,a12,a13,a14,a15⟩:=u11
 obtain⟨a16,a17,a18⟩:=u12
 obtain⟨a22,a23,a24,a25⟩:=u16
 obtain⟨a26,a27⟩:=u17
 rw[za7]at h
 obtain⟨h1,h⟩:=cl h
 cases h
 exact path (zeT (zdT GBy.zl h1) (zfb (zd7 GBy.zl (a:=a20) (b:=([(GBy.mk a22 a23 a24 a25)]:List GBy))) ob)) (by kernel_rfl)
theorem zaX.okL (ht:TabOk t call) (n:Nat):∀(k:Nat) (a1:List GStep) (a2:List GCode) (a3 a4:Int) (a5:List GKey) (a6 a7 a8:Int) (a9:List ByteArray) (a10:List Int) (u11:zh) (u12:GPred) (a19:List (List GStep)) (a20:List GBy) (a21:List ByteArray) (u16:zD) (r:_),zaX t n k a1 a2 a3 a4 a5 a6 a7 a8 a9 a10 u11 u12 a19 a20 a21 u16=some r→loopN (exec (env Tryd.prog 32 Tryd.f32 call) n (sub [1,1,1,1,0,1,0,0,1,1,0,0,1,1,1,0,1,0,0] (zt Tryd.f32))) k (mkSt 132 133 [(0,(.ptr 132 0 [] 0)),(6,(.t (.sl true 14 (GStep.ts a1)))),(9,(.ptr 9 0 [] 0)),(47,(Sl 14 (GCode.ts a2))),(48,(I6 a3)),(49,(I6 a4)),(89,(Sl 4 (GKey.ts a5))),(90,(I6 a6)),(91,(I6 a7))] [(9,(.t (.st [(.v (.int .i64 a8)),(.sl false 1 (texts a9)),(.sl false 1 (zz a10)),(zh.t u11),(GPred.t u12),(.sl true 1 (zq a19)),(.sl true 4 (GBy.ts a20)),(.sl false 1 (texts a21))]))),(132,(.t (zD.t u16)))])=some (zaX.to r)
 | 0,a1,a2,a3,a4,a5,a6,a7,a8,a9,a10,u11,u12,a19,a20,a21,u16,r,h=>by rw[zaX]at h;cases h
 | k+1,a1,a2,a3,a4,a5,a6,a7,a8,a9,a10,⟨a11,a12,a13,a14,a15⟩,⟨a16,a17,a18⟩,a19,a20,a21,⟨a22,a23⟩,r,h=>by
  rw[zaX]at h
  rcases fk h with ⟨h1,h⟩ | ⟨h1,h⟩
  ·obtain⟨h2,h⟩:=ck h
   obtain⟨⟨a24,a25,a26,a27⟩,h3,h⟩:=sm h
   rcases fk h with ⟨h4,h⟩ | ⟨h4,h⟩
   ·obtain⟨⟨a28,a29,⟨a30,a31⟩⟩,h5,h⟩:=sm h
    rcases fk h with ⟨h6,h⟩ | ⟨h6,h⟩
    ·obtain⟨⟨a32,a33,a34,a35,a36,a37,a38,a39,a40,a41,⟨a42,a43,a44,a45,a46⟩,⟨a47,a48,a49⟩,a50,a51,a52,⟨a53,a54⟩⟩,h7,h⟩:=sm h
     exact zM (path (zk h1 (zaq h2 (zan (zu GKey.zl h3) (zk h4 (zaa (ht.zaM _ _ _ h5) (zk (ng h6) (zau (za7.ok ht n _ _ _ _ _ _ _ _ _ _ _ _ _ _ _ _ _ _ h7) ob))))))) (by kernel_rfl)) (zaX.okL ht n k _ _ _ _ _ _ _ _ _ _ _ _ _ _ _ _ _ h)
    ·cases h
     exact zx (path (zk h1 (zaq h2 (zan (zu GKey.zl h3) (zk h4 (zaa (ht.zaM _ _ _ h5) (zk (ng h6) ob)))))) (by kernel_rfl)) (fun h=>by cases h)
   ·rcases fk h with ⟨h8,h⟩ | ⟨h8,h⟩
    ·cases h
     exact zx (path (zk h1 (zaq h2 (zan (zu GKey.zl h3) (zk h4 (zk h8 ob))))) (by kernel_rfl)) (fun h=>by cases h)
    ·obtain⟨⟨a55,a56,a57,a58,a59,a60,a61,a62,a63,a64,⟨a65,a66,a67,a68,a69⟩,⟨a70,a71,a72⟩,a73,a74,a75,⟨a76,a77⟩⟩,h9,h⟩:=sm h
     exact zM (path (zk h1 (zaq h2 (zan (zu GKey.zl h3) (zk h4 (zk h8 (zau (za7.ok ht n _ _ _ _ _ _ _ _ _ _ _ _ _ _ _ _ _ _ h9) ob)))))) (by kernel_rfl)) (zaX.okL ht n k _ _ _ _ _ _ _ _ _ _ _ _ _ _ _ _ _ h)
  ·cases h
   exact zx (path (zk h1 ob) (by kernel_rfl)) (fun h=>by cases h)
theorem zbG.ok (ht:TabOk t call) (n:Nat) (a1:List GStep) (a2:List GCode) (a3 a4 a5:Int) (a6:List ByteArray) (a7:List Int) (u8:zh) (u9:GPred) (a16:List (List GStep)) (a17:List GBy) (a18:List ByteArray) (u13:zD) (r:_) (h:zbG t n a1 a2 a3 a4 a5 a6 a7 u8 u9 a16 a17 a18 u13=some r):exec (env Tryd.prog 32 Tryd.f32 call) n (sub [1,1,1,1,0,1,0,0,1,1,0,0,1,1,1,1] (zt Tryd.f32)) (mkSt 132 133 [(0,(.ptr 132 0 [] 0)),(6,(.t (.sl true 14 (GStep.ts a1)))),(9,(.ptr 9 0 [] 0)),(47,(Sl 14 (GCode.ts a2))),(48,(I6 a3)),(49,(I6 a4))] [(9,(.t (.st [(.v (.int .i64 a5)),(.sl false 1 (texts a6)),(.sl false 1 (zz a7)),(zh.t u8),(GPred.t u9),(.sl true 1 (zq a16)),(.sl true 4 (GBy.ts a17)),(.sl false 1 (texts a18))]))),(132,(.t (zD.t u13)))])=some (zbG.to r):=by
 obtain⟨a8,a9,a10,a11,a12⟩:=u8
 obtain⟨a13,a14,a15⟩:=u9
 obtain⟨a19,a20⟩:=u13
 rw[zbG]at h
 obtain⟨h1,h⟩:=cl h
 cases h
 exact path (zeT (zdT GStep.zl h1) (zfb (zd7 GStep.zl (a:=a1) (b:=([(GStep.mk a5 a6 a7 (zh.mk a8 a9 a10 a11 a12) (GPred.mk a13 a14 a15) a16 a17 a18)]:List GStep))) ob)) (by kernel_rfl)
theorem zbl.ok (ht:TabOk t call) (n:Nat) (a1:List GStep) (a2:List GCode) (a3 a4:Int) (u5:GCode) (a19:Int) (a20:List ByteArray) (a21:List Int) (u9:zh) (u10:GPred) (a30:List (List GStep)) (a31:List GBy) (a32:List ByteArray) (u14:zD) (r:_) (h:zbl t n a1 a2 a3 a4 u5 a19 a20 a21 u9 u10 a30 a31 a32 u14=some r):exec (env Tryd.prog 32 Tryd.f32 call) n (sub [1,1,1,1,0,1,0,0,1,1,0,0,1,1,1] (zt Tryd.f32)) (mkSt 132 133 [(0,(.ptr 132 0 [] 0)),(6,(.t (.sl true 14 (GStep.ts a1)))),(8,(.ptr 8 0 [] 0)),(9,(.ptr 9 0 [] 0)),(47,(Sl 14 (GCode.ts a2))),(48,(I6 a3)),(49,(I6 a4))] [(8,(.t (GCode.t u5))),(9,(.t (.st [(.v (.int .i64 a19)),(.sl false 1 (texts a20)),(.sl false 1 (zz a21)),(zh.t u9),(GPred.t u10),(.sl true 1 (zq a30)),(.sl true 4 (GBy.ts a31)),(.sl false 1 (texts a32))]))),(132,(.t (zD.t u14)))])=some (zbl.to r):=by
 obtain⟨a5,a6,a7,⟨a8,a9,a10,a11,a12⟩,⟨a13,a14,a15⟩,a16,a17,a18⟩:=u5
 obtain⟨a22,a23,a24,a25,a26⟩:=u9
 obtain⟨a27,a28,a29⟩:=u10
 obtain⟨a33,a34⟩:=u14
 rw[zbl]at h
 obtain⟨⟨a35,a36,⟨a37,a38⟩⟩ | ⟨a39,a40,a41,a42,a43,a44,a45,a46,a47,a48,a49,⟨a50,a51,a52,a53,a54⟩,⟨a55,a56,a57⟩,a58,a59,a60,⟨a61,a62⟩⟩,h1,h⟩:=sm h
 ·cases h
  exact path (zG (zo GKey.zl (l:=a17)) (zbj (lk (sub [1,1,1,1,0,1,0,0,1,1,0,0,1,1,1,0,1,0] (zt Tryd.f32)) (by kernel_rfl) (zaX.okL ht n n _ _ _ _ _ _ _ _ _ _ _ _ _ _ _ _ _ h1)) ob)) (by kernel_rfl)
 ·obtain⟨⟨a63,a64,a65,a66,⟨a67,a68⟩⟩,h2,h⟩:=sm h
  cases h
  exact path (zG (zo GKey.zl (l:=a17)) (zbj (lk (sub [1,1,1,1,0,1,0,0,1,1,0,0,1,1,1,0,1,0] (zt Tryd.f32)) (by kernel_rfl) (zaX.okL ht n n _ _ _ _ _ _ _ _ _ _ _ _ _ _ _ _ _ h1)) (zau (zbG.ok ht n _ _ _ _ _ _ _ _ _ _ _ _ _ _ h2) ob))) (by kernel_rfl)
theorem zbm.okL (ht:TabOk t call) (n:Nat):∀(k:Nat) (a1:List GStep) (a2:List GCode) (a3 a4:Int) (u5:zD) (r:_),zbm t n k a1 a2 a3 a4 u5=some r→loopN (exec (env Tryd.prog 32 Tryd.f32 call) n (sub [1,1,1,1,0,1,0,0] (zt Tryd.f32))) k (mkSt 132 133 [(0,(.ptr 132 0 [] 0)),(6,(.t (.sl true 14 (GStep.ts a1)))),(47,(Sl 14 (GCode.ts a2))),(48,(I6 a3)),(49,(I6 a4))] [(132,(.t (zD.t u5)))])=some (zbm.to r)
 | 0,a1,a2,a3,a4,u5,r,h=>by rw[zbm]at h;cases h
 | k+1,a1,a2,a3,a4,⟨a5,a6⟩,r,h=>by
  rw[zbm]at h
  rcases fk h with ⟨h1,h⟩ | ⟨h1,h⟩
  ·obtain⟨h2,h⟩:=ck h
   obtain⟨⟨a7,a8,a9,⟨a10,a11,a12,a13,a14⟩,⟨a15,a16,a17⟩,a18,a19,a20⟩,h3,h⟩:=sm h
   have o4 {os} (x:Obls (env Tryd.prog 32 Tryd.f32 call) n os):=zk h1 (zaq h2 (zan (zu GCode.zl h3) (zG (zo zw (l:=a18)) x)))
   obtain⟨⟨a21,a22,⟨a23,a24⟩⟩ | ⟨a25,a26,a27,a28,a29,a30,a31,a32,⟨a33,a34,a35,⟨a36,a37,a38,a39,a40⟩,⟨a41,a42,a43⟩,a44,a45,a46⟩,a47,a48,a49,⟨a50,a51,a52,a53,a54⟩,⟨a55,a56,a57⟩,a58,a59,a60,⟨a61,a62⟩⟩,h4,h⟩:=sm h
   ·cases h
    exact zx (path (o4 (zbj (lk (sub [1,1,1,1,0,1,0,0,1,1,0,0,1,1,0,1,0] (zt Tryd.f32)) (by kernel_rfl) (za6.okL ht n n _ _ _ _ _ _ _ _ _ _ _ _ _ _ _ _ _ _ h4)) ob)) (by kernel_rfl)) (fun h=>by cases h)
   ·obtain⟨⟨a63,a64,⟨a65,a66⟩⟩ | ⟨a67,a68,a69,a70,⟨a71,a72⟩⟩,h5,h⟩:=sm h
    ·cases h
     exact zx (path (o4 (zbj (lk (sub [1,1,1,1,0,1,0,0,1,1,0,0,1,1,0,1,0] (zt Tryd.f32)) (by kernel_rfl) (za6.okL ht n n _ _ _ _ _ _ _ _ _ _ _ _ _ _ _ _ _ _ h4)) (zau (zbl.ok ht n _ _ _ _ _ _ _ _ _ _ _ _ _ _ _ h5) ob))) (by kernel_rfl)) (fun h=>by cases h)
    ·exact zM (path (o4 (zbj (lk (sub [1,1,1,1,0,1,0,0,1,1,0,0,1,1,0,1,0] (zt Tryd.f32)) (by kernel_rfl) (za6.okL ht n n _ _ _ _ _ _ _ _ _ _ _ _ _ _ _ _ _ _ h4)) (zau (zbl.ok ht n _ _ _ _ _ _ _ _ _ _ _ _ _ _ _ h5) ob))) (by kernel_rfl)) (zbm.okL ht n k _ _ _ _ _ _ h)
  ·cases h
   exact zx (path (zk h1 ob) (by kernel_rfl)) (fun h=>by cases h)
theorem zbH.ok (ht:TabOk t call) (n:Nat) (a1:Int) (u2:zD) (r:_) (h:zbH t n a1 u2=some r):exec (env Tryd.prog 32 Tryd.f32 call) n (sub [1,1] (zt Tryd.f32)) (mkSt 132 133 [(0,(.ptr 132 0 [] 0)),(1,(I6 a1))] [(132,(.t (zD.t u2)))])=some (zbH.to r):=by
 obtain⟨a2,a3⟩:=u2
 rw[zbH]at h
 obtain⟨h1,h⟩:=ck h
 obtain⟨a4,h2,h⟩:=sm h
 obtain⟨⟨a5,a6,⟨a7,a8⟩⟩ | ⟨a9,a10,a11,a12,a13,⟨a14,a15⟩⟩,h3,h⟩:=sm h
 ·cases h
  exact path (zaq h1 (zan (zu zB h2) (zG (zo GCode.zl (l:=a4)) (zbj (lk (sub [1,1,1,1,0,1,0] (zt Tryd.f32)) (by kernel_rfl) (zbm.okL ht n n _ _ _ _ _ _ h3)) ob)))) (by kernel_rfl)
 ·cases h
  exact path (zaq h1 (zan (zu zB h2) (zG (zo GCode.zl (l:=a4)) (zbj (lk (sub [1,1,1,1,0,1,0] (zt Tryd.f32)) (by kernel_rfl) (zbm.okL ht n n _ _ _ _ _ _ h3)) ob)))) (by kernel_rfl)
theorem zaM.ok {n:Nat} {t:Tab} (ht:TabOk t (run Tryd.prog own kp X n)):∀(p1:Int) (p2:zD) r,zaM t n p1 p2=some r→run Tryd.prog own kp X (n+1) 32 [(.ptr 0 0 [] 0),(I6 p1)] [(.t (zD.t p2))]=some ((.tup [(.sl false 14 (GStep.ts r.1)),(.v (.bool r.2.1))]),[(.t (zD.t r.2.2))]):=by
 intro p1 p2 r h
 obtain⟨a1,rfl⟩:∃z_,z_=p1:=⟨_,rfl⟩
 obtain⟨a2,a3⟩:=p2
 rw[zaM]at h
 rcases fk h with ⟨h1,h⟩ | ⟨h1,h⟩
 ·cases h
  exact zi Tryd.func32 (zax h1 8 (zdp 1 ob)) (by kernel_rfl)
 ·rcases fk h with ⟨h2,h⟩ | ⟨h2,h⟩
  ·cases h
   exact zi Tryd.func32 (zax h1 6 (zG (zo zB (l:=a2)) (zaG h1 (zk h2 ob)))) (by kernel_rfl)
  ·obtain⟨⟨a4,a5,⟨a6,a7⟩⟩,h3,h⟩:=sm h
   cases h
   exact zi Tryd.func32 (zax h1 6 (zG (zo zB (l:=a2)) (zaG h1 (zk h2 (zau (zbH.ok ht n _ _ _ h3) ob))))) (by kernel_rfl)
theorem zc6.ok {n:Nat} {t:Tab} (ht:TabOk t (run Tryd.prog own kp X n)):∀(p1:List GStep) r,zc6 t n p1=some r→run Tryd.prog own kp X (n+1) 36 [(Sl 14 (GStep.ts p1))] []=some ((I6 r),[]):=by
 intro p1 r h
 obtain⟨a1,rfl⟩:∃z_,z_=p1:=⟨_,rfl⟩
 rw[zc6]at h
 obtain⟨a2,rfl⟩:∃z_,z_=r:=⟨_,rfl⟩
 have h1:=h
 exact zi Tryd.func36 (zaa (ht.zco _ _ _ _ h1) ob) (by kernel_rfl)
theorem za5.ok {n:Nat} {t:Tab} (ht:TabOk t (run Tryd.prog own kp X n)):∀(p1:List GStep) (p2:Int) r,za5 t n p1 p2=some r→run Tryd.prog own kp X (n+1) 37 [(Sl 14 (GStep.ts p1)),(I6 p2)] []=some ((Bo r),[]):=by
 intro p1 p2 r h
 obtain⟨a1,rfl⟩:∃z_,z_=p1:=⟨_,rfl⟩
 obtain⟨a2,rfl⟩:∃z_,z_=p2:=⟨_,rfl⟩
 rw[za5]at h
 rcases fk h with ⟨h1,h⟩ | ⟨h1,h⟩
 ·obtain⟨a3,h2,h⟩:=sm h
  cases h
  exact zi Tryd.func37 (zV h1 (zaa (ht.zO _ _ _ h2) (zaG h1 ob))) (by kernel_rfl)
 ·cases h
  exact zi Tryd.func37 (zax h1 5 ob) (by kernel_rfl)
end Go.Proofs.YtgmidllbkjdnnaaDoor.W
