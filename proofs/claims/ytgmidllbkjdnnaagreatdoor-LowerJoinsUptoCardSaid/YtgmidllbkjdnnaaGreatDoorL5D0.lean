/- The proofs of it, part 0. -/
import Derived.Test.YtgmidllbkjdnnaaGreatDoorL5C
namespace Go.Proofs.YtgmidllbkjdnnaaGreatDoor.W
open Go.Proofs.YtgmidllbkjdnnaaGreatDoor.Flat
set_option smartUnfolding false
attribute [local irreducible] zaM zaN zbx zbc za0 zbv zda zb3 zaq zaA zb2 zbn zdS quoI zc7 zc8 zdI zba zbd zde zcL zac zc9 zZ zbu zcl zcQ zdF zdG zc0 zbs zc6 zc5 strAt zaQ
set_option linter.unusedVariables false
set_option linter.unusedSimpArgs false
theorem pK0 {e:Env} {k:Nat} {c:Code} {ob:List Obl} {s s':St} {x:Ex} (ho:Obls e k ob) (h:execN e c (scOf ob) s=some (x,s',[],ob):=by kernel_rfl):exec e k c s=some (x,s'):=path ho h
variable {t:Tab} {call:FuncId→List AV→List AV→Option (AV × List AV)}
theorem zaB.okL (ht:TabOk t call) (n:Nat):∀(k:Nat) (a1:Int) (u2 u3 u4:GProg) (r:_),zaB t n k a1 u2 u3 u4=some r→loopN (exec (env Tryz.prog 5 Tryz.f5 call) n (sub [1,1,1,1,1,1,1,1,1,1,1,0,1,0,0] (zq Tryz.f5))) k (mkSt 223 223 [(6,(.ptr 6 0 [] 0)),(10,(.ptr 10 0 [] 0)),(12,(.ptr 12 0 [] 0)),(14,(I6 a1))] [(6,(.t (GProg.t u2))),(10,(.t (GProg.t u3))),(12,(.t (GProg.t u4)))])=some (zaB.to r)
 | 0,a1,u2,u3,u4,r,h=>by rw[zaB]at h;cases h
 | k+1,a1,⟨a2⟩,⟨a3⟩,⟨a4⟩,r,h=>by
  rw[zaB]at h
  rcases fk h with ⟨h1,h⟩ | ⟨h1,h⟩
  ·obtain⟨h2,h⟩:=ck h
   obtain⟨a5,h3,h⟩:=sm h
   obtain⟨h4,h⟩:=ck h
   obtain⟨a6,h5,h⟩:=sm h
   have o8 {os} (x:Obls (env Tryz.prog 5 Tryz.f5 call) n os):=zD (zn zC (l:=a2)) (zi h1 (zae h2 (zab (zu zC h3) (zD (zn GCode.zl (l:=a5)) (zae h4 (zab (zu zC h5) (zD (zn GCode.zl (l:=a6)) x)))))))
   rcases fk h with ⟨h6,h⟩ | ⟨h6,h⟩
   ·cases h
    exact zw (pK0 (o8 (zW h6 5 (zck 1 ob)))) (fun h=>by cases h)
   ·rcases fk h with ⟨h7,h⟩ | ⟨h7,h⟩
    ·obtain⟨a7,h8,h⟩:=sm h
     have o33 {os} (x:Obls (env Tryz.prog 5 Tryz.f5 call) n os):=o8 (zy h6 (zah h7 (zae h4 (zab (zu zC h8) (zX h7 (zD (zn GCode.zl (l:=a7)) (zah h7 (zae h4 (zab (zu zC h5) (zX h7 (zD (zn GCode.zl (l:=a6)) (zi h7 (zi h6 (zi h7 (zi h6 x)))))))))))))))
     rcases fk h with ⟨h9,h⟩ | ⟨h9,h⟩
     ·cases h
      exact zw (pK0 (o33 (zi h9 ob))) (fun h=>by cases h)
     ·exact zF (pK0 (o33 (zi h9 ob))) (zaB.okL ht n k _ _ _ _ _ h)
    ·exact zF (pK0 (o8 (zy h6 (zW h7 13 (zi h6 (zi h7 (zi h6 (zi (rfl:false=false) ob)))))))) (zaB.okL ht n k _ _ _ _ _ h)
  ·cases h
   exact zw (pK0 (zD (zn zC (l:=a2)) (zi h1 ob))) (fun h=>by cases h)
theorem zdh.ok (ht:TabOk t call) (n:Nat) (u1 u2 u3:GProg) (r:_) (h:zdh t n u1 u2 u3=some r):exec (env Tryz.prog 5 Tryz.f5 call) n (sub [1,1,1,1,1,1,1,1,1,1,1] (zq Tryz.f5)) (mkSt 223 223 [(6,(.ptr 6 0 [] 0)),(10,(.ptr 10 0 [] 0)),(12,(.ptr 12 0 [] 0))] [(6,(.t (GProg.t u1))),(10,(.t (GProg.t u2))),(12,(.t (GProg.t u3)))])=some (zdh.to r):=by
 obtain⟨a1⟩:=u1
 obtain⟨a2⟩:=u2
 obtain⟨a3⟩:=u3
 rw[zdh]at h
 obtain⟨a4 | ⟨a5,a6,⟨a7⟩,⟨a8⟩,⟨a9⟩⟩,h1,h⟩:=sm h
 ·cases h
  exact pK0 (zaS (lk (sub [1,1,1,1,1,1,1,1,1,1,1,0,1,0] (zq Tryz.f5)) (by kernel_rfl) (zaB.okL ht n n _ _ _ _ _ h1)) ob)
 ·obtain⟨a10,rfl⟩:∃z_,z_=r:=⟨_,rfl⟩
  have h2:=h
  exact pK0 (zaS (lk (sub [1,1,1,1,1,1,1,1,1,1,1,0,1,0] (zq Tryz.f5)) (by kernel_rfl) (zaB.okL ht n n _ _ _ _ _ h1)) (zN (ht.za5 _ h2) ob))
theorem zdi.ok (ht:TabOk t call) (n:Nat) (u1 u2 u3 u4:GProg) (r:_) (h:zdi t n u1 u2 u3 u4=some r):exec (env Tryz.prog 5 Tryz.f5 call) n (sub [1,1,1,1,1,1,1,1,1,1] (zq Tryz.f5)) (mkSt 223 223 [(6,(.ptr 6 0 [] 0)),(8,(.ptr 8 0 [] 0)),(10,(.ptr 10 0 [] 0)),(12,(.ptr 12 0 [] 0))] [(6,(.t (GProg.t u1))),(8,(.t (GProg.t u2))),(10,(.t (GProg.t u3))),(12,(.t (GProg.t u4)))])=some (zdi.to r):=by
 obtain⟨a1⟩:=u1
 obtain⟨a2⟩:=u2
 obtain⟨a3⟩:=u3
 obtain⟨a4⟩:=u4
 rw[zdi]at h
 obtain⟨h1,h⟩:=ck h
 obtain⟨a5,h2,h⟩:=sm h
 obtain⟨a6,h3,h⟩:=sm h
 obtain⟨a7,h4,h⟩:=sm h
 have o9 {os} (x:Obls (env Tryz.prog 5 Tryz.f5 call) n os):=zae h1 (zab (zu zC h2) (zD (zn GCode.zl (l:=a5)) (zae h1 (zab (zu zC h3) (zD (zn GCode.zl (l:=a6)) (zae h1 (zab (zu zC h4) (zD (zn GCode.zl (l:=a7)) x))))))))
 rcases fk h with ⟨h5,h⟩ | ⟨h5,h⟩
 ·cases h
  exact pK0 (o9 (zW h5 7 (zck 31 ob)))
 ·obtain⟨a8,h6,h⟩:=sm h
  have o19 {os} (x:Obls (env Tryz.prog 5 Tryz.f5 call) n os):=o9 (zy h5 (zae h1 (zab (zu zC h6) (zX h5 (zD (zn GCode.zl (l:=a8)) (zX h5 x))))))
  rcases fk h with ⟨h7,h⟩ | ⟨h7,h⟩
  ·cases h
   exact pK0 (o19 (zW h7 9 (zck 22 ob)))
  ·obtain⟨⟨a9,a10,a11,⟨a12,a13,a14,a15,a16⟩,⟨a17,a18,a19⟩,a20,a21,a22⟩,h8,h⟩:=sm h
   have o32 {os} (x:Obls (env Tryz.prog 5 Tryz.f5 call) n os):=o19 (zy h7 (zae h1 (zab (zu zC h6) (zX h7 (zae h1 (zab (zu GCode.zl h8) (zah h7 x)))))))
   rcases fk h with ⟨h9,h⟩ | ⟨h9,h⟩
   ·cases h
    exact pK0 (o32 (zW h9 10 (zck 12 ob)))
   ·have o47 {os} (x:Obls (env Tryz.prog 5 Tryz.f5 call) n os):=o32 (zy h9 (zae h1 (zab (zu zC h6) (zX h9 (zae h1 (zab (zu GCode.zl h8) (zy h9 (zD (zn zz (l:=a20)) (zX h9 x)))))))))
    rcases fk h with ⟨h10,h⟩ | ⟨h10,h⟩
    ·cases h
     exact pK0 (o47 (zW h10 11 (zck 1 ob)))
    ·obtain⟨a23,h11,h⟩:=sm h
     have o64 {os} (x:Obls (env Tryz.prog 5 Tryz.f5 call) n os):=o47 (zy h10 (zae h1 (zab (zu zC h6) (zX h10 (zae h1 (zab (zu GCode.zl h8) (zy h10 (zae h1 (zab (zu zz h11) (zy h10 x))))))))))
     rcases fk h with ⟨h12,h⟩ | ⟨h12,h⟩
     ·cases h
      exact pK0 (o64 (zi h12 ob))
     ·obtain⟨a24,rfl⟩:∃z_,z_=r:=⟨_,rfl⟩
      have h13:=h
      exact pK0 (o64 (zi h12 (zI (zdh.ok ht n _ _ _ _ h13) ob)))
theorem zdj.ok (ht:TabOk t call) (n:Nat) (a1 a2:List GStep) (r:_) (h:zdj t n a1 a2=some r):exec (env Tryz.prog 5 Tryz.f5 call) n (sub [1,1] (zq Tryz.f5)) (mkSt 223 223 [(0,(Sl 14 (GStep.ts a1))),(1,(Sl 14 (GStep.ts a2)))] [])=some (zdj.to r):=by
 rw[zdj]at h
 obtain⟨h1,h⟩:=cl h
 obtain⟨h2,h⟩:=cl h
 obtain⟨⟨⟨a3⟩,a4⟩,h3,h⟩:=sm h
 obtain⟨⟨⟨a5⟩,a6⟩,h4,h⟩:=sm h
 obtain⟨⟨⟨a7⟩,a8⟩,h5,h⟩:=sm h
 obtain⟨⟨⟨a9⟩,a10⟩,h6,h⟩:=sm h
 have o8 {os} (x:Obls (env Tryz.prog 5 Tryz.f5 call) n os):=zfm (zes GStep.zl h1) (zfx (zeS GStep.zl (a:=([]:List GStep)) (b:=a1)) (zfm (zes GStep.zl h2) (zfx (zeS GStep.zl (a:=(([]:List GStep)++a1)) (b:=a2)) (zN (ht.zbh _ _ h3) (zN (ht.zbh _ _ h4) (zN (ht.zbh _ _ h5) (zN (ht.zbh _ _ h6) x)))))))
 rcases fk h with ⟨h7,h⟩ | ⟨h7,h⟩
 ·cases h
  exact pK0 (o8 (zy h7 (zck 39 ob)))
 ·have o11 {os} (x:Obls (env Tryz.prog 5 Tryz.f5 call) n os):=o8 (zy h7 x)
  rcases fk h with ⟨h8,h⟩ | ⟨h8,h⟩
  ·cases h
   exact pK0 (o11 (zy h8 (zck 36 ob)))
  ·have o14 {os} (x:Obls (env Tryz.prog 5 Tryz.f5 call) n os):=o11 (zy h8 x)
   rcases fk h with ⟨h9,h⟩ | ⟨h9,h⟩
   ·cases h
    exact pK0 (o14 (zy h9 (zck 33 ob)))
   ·rcases fk h with ⟨h10,h⟩ | ⟨h10,h⟩
    ·cases h
     exact pK0 (o14 (zy h9 (zW h10 5 (zck 28 ob))))
    ·have o23 {os} (x:Obls (env Tryz.prog 5 Tryz.f5 call) n os):=o14 (zy h9 (zy h10 (zD (zn zC (l:=a3)) (zX h10 x))))
     rcases fk h with ⟨h11,h⟩ | ⟨h11,h⟩
     ·cases h
      exact pK0 (o23 (zW h11 5 (zck 23 ob)))
     ·have o29 {os} (x:Obls (env Tryz.prog 5 Tryz.f5 call) n os):=o23 (zy h11 (zD (zn zC (l:=a5)) (zX h11 x)))
      rcases fk h with ⟨h12,h⟩ | ⟨h12,h⟩
      ·cases h
       exact pK0 (o29 (zW h12 13 (zck 10 ob)))
      ·have o45 {os} (x:Obls (env Tryz.prog 5 Tryz.f5 call) n os):=o29 (zy h12 (zD (zn zC (l:=a7)) (zy h12 (zD (zn zC (l:=a3)) (zy h12 (zD (zn zC (l:=a5)) (zah h12 x)))))))
       rcases fk h with ⟨h13,h⟩ | ⟨h13,h⟩
       ·cases h
        exact pK0 (o45 (zW h13 9 (zck 1 ob)))
       ·have o56 {os} (x:Obls (env Tryz.prog 5 Tryz.f5 call) n os):=o45 (zy h13 (zD (zn zC (l:=a9)) (zy h13 (zD (zn zC (l:=a3)) (zy h13 x)))))
        rcases fk h with ⟨h14,h⟩ | ⟨h14,h⟩
        ·cases h
         exact pK0 (o56 (zi h14 ob))
        ·obtain⟨a11,rfl⟩:∃z_,z_=r:=⟨_,rfl⟩
         have h15:=h
         exact pK0 (o56 (zi h14 (zI (zdi.ok ht n _ _ _ _ _ h15) ob)))
theorem zbE.ok {n:Nat} {t:Tab} (ht:TabOk t (run Tryz.prog own kp X n)):∀(p1:List GStep) (p2:List GStep) r,zbE t n p1 p2=some r→run Tryz.prog own kp X (n+1) 5 [(Sl 14 (GStep.ts p1)),(Sl 14 (GStep.ts p2))] []=some ((Bo r),[]):=by
 intro p1 p2 r h
 obtain⟨a1,rfl⟩:∃z_,z_=p1:=⟨_,rfl⟩
 obtain⟨a2,rfl⟩:∃z_,z_=p2:=⟨_,rfl⟩
 rw[zbE]at h
 obtain⟨a3,h1,h⟩:=sm h
 rcases fk h with ⟨h2,h⟩ | ⟨h2,h⟩
 ·obtain⟨a4,rfl⟩:∃z_,z_=r:=⟨_,rfl⟩
  have h3:=h
  exact zk Tryz.func5 (zN (ht.zdz _ _ h1) (zy h2 (zck 20 (zN (ht.za5 _ h3) ob)))) (by kernel_rfl)
 ·obtain⟨a5,h4,h⟩:=sm h
  have o5 {os} (x:Obls (env Tryz.prog 5 Tryz.f5 (run Tryz.prog own kp X n)) n os):=zN (ht.zdz _ _ h1) (zX h2 (zN (ht.zdz _ _ h4) (zi h2 x)))
  rcases fk h with ⟨h5,h⟩ | ⟨h5,h⟩
  ·obtain⟨a6,rfl⟩:∃z_,z_=r:=⟨_,rfl⟩
   have h6:=h
   exact zk Tryz.func5 (o5 (zah h5 (zck 16 (zN (ht.za5 _ h6) ob)))) (by kernel_rfl)
  ·obtain⟨a7,h7,h⟩:=sm h
   have o10 {os} (x:Obls (env Tryz.prog 5 Tryz.f5 (run Tryz.prog own kp X n)) n os):=o5 (zX h5 (zN (ht.zdk _ _ h7) (zX h5 x)))
   rcases fk h with ⟨h8,h⟩ | ⟨h8,h⟩
   ·obtain⟨a8,rfl⟩:∃z_,z_=r:=⟨_,rfl⟩
    have h9:=h
    exact zk Tryz.func5 (o10 (zah h8 (zck 12 (zN (ht.za5 _ h9) ob)))) (by kernel_rfl)
   ·obtain⟨a9,h10,h⟩:=sm h
    have o15 {os} (x:Obls (env Tryz.prog 5 Tryz.f5 (run Tryz.prog own kp X n)) n os):=o10 (zX h8 (zN (ht.zdk _ _ h10) (zX h8 x)))
    rcases fk h with ⟨h11,h⟩ | ⟨h11,h⟩
    ·obtain⟨a10,rfl⟩:∃z_,z_=r:=⟨_,rfl⟩
     have h12:=h
     exact zk Tryz.func5 (o15 (zW h11 7 (zck 5 (zN (ht.za5 _ h12) ob)))) (by kernel_rfl)
    ·obtain⟨a11,h13,h⟩:=sm h
     obtain⟨a12,h14,h⟩:=sm h
     have o24 {os} (x:Obls (env Tryz.prog 5 Tryz.f5 (run Tryz.prog own kp X n)) n os):=o15 (zX h11 (zN (ht.zbY _ _ h13) (zX h11 (zN (ht.zbY _ _ h14) (zy h11 x)))))
     rcases fk h with ⟨h15,h⟩ | ⟨h15,h⟩
     ·obtain⟨a13,rfl⟩:∃z_,z_=r:=⟨_,rfl⟩
      have h16:=h
      exact zk Tryz.func5 (o24 (zah h15 (zck 1 (zN (ht.za5 _ h16) ob)))) (by kernel_rfl)
     ·obtain⟨a14,h17,h⟩:=sm h
      rcases fk h with ⟨h18,h⟩ | ⟨h18,h⟩
      ·obtain⟨a15,rfl⟩:∃z_,z_=r:=⟨_,rfl⟩
       have h19:=h
       exact zk Tryz.func5 (o24 (zX h15 (zN (ht.zdT _ _ h17) (zX h15 (zi h18 (zN (ht.za5 _ h19) ob)))))) (by kernel_rfl)
      ·obtain⟨a16,rfl⟩:∃z_,z_=r:=⟨_,rfl⟩
       have h20:=h
       exact zk Tryz.func5 (o24 (zX h15 (zN (ht.zdT _ _ h17) (zX h15 (zi h18 (zI (zdj.ok ht n _ _ _ h20) ob)))))) (by kernel_rfl)
theorem zdz.ok {n:Nat} {t:Tab} (ht:TabOk t (run Tryz.prog own kp X n)):∀(p1:List GStep) r,zdz t n p1=some r→run Tryz.prog own kp X (n+1) 6 [(Sl 14 (GStep.ts p1))] []=some ((Bo r),[]):=by
 intro p1 r h
 obtain⟨a1,rfl⟩:∃z_,z_=p1:=⟨_,rfl⟩
 rw[zdz]at h
 obtain⟨a2,h1,h⟩:=sm h
 cases h
 exact zk Tryz.func6 (zN (ht.zb4 _ _ _ _ h1) ob) (by kernel_rfl)
theorem zeD.ok (ht:TabOk t call) (n:Nat) (a1 a2:List GStep) (u3:GProg) (r:_) (h:zeD t n a1 a2 u3=some r):exec (env Tryz.prog 7 Tryz.f7 call) n (sub [1,1,1,1,1,1,1] (zq Tryz.f7)) (mkSt 118 118 [(3,(Sl 14 (GStep.ts a1))),(4,(.ptr 4 0 [] 0)),(6,(Sl 14 (GStep.ts a2)))] [(4,(.t (GProg.t u3)))])=some (zeD.to r):=by
 obtain⟨a3⟩:=u3
 rw[zeD]at h
 obtain⟨h1,h⟩:=ck h
 obtain⟨a4,h2,h⟩:=sm h
 obtain⟨h3,h⟩:=ck h
 obtain⟨⟨a5,a6,a7,⟨a8,a9,a10,a11,a12⟩,⟨a13,a14,a15⟩,a16,a17,a18⟩,h4,h⟩:=sm h
 obtain⟨a19,h5,h⟩:=sm h
 have o6 {os} (x:Obls (env Tryz.prog 7 Tryz.f7 call) n os):=zae h1 (zab (zu zC h2) (zae h3 (zab (zu GCode.zl h4) (zae h1 (zab (zu zz h5) x)))))
 rcases fk h with ⟨h6,h⟩ | ⟨h6,h⟩
 ·obtain⟨h7,h⟩:=ck h
  obtain⟨a20,h8,h⟩:=sm h
  obtain⟨⟨a21,a22,a23,⟨a24,a25,a26,a27,a28⟩,⟨a29,a30,a31⟩,a32,a33,a34⟩,h9,h⟩:=sm h
  have o19 {os} (x:Obls (env Tryz.prog 7 Tryz.f7 call) n os):=o6 (zy h6 (zae h7 (zab (zu zC h8) (zX h6 (zae h7 (zab (zu GCode.zl h9) (zah h6 x)))))))
  rcases fk h with ⟨h10,h⟩ | ⟨h10,h⟩
  ·obtain⟨h11,h⟩:=ck h
   obtain⟨a35,h12,h⟩:=sm h
   obtain⟨⟨a36,a37,a38,⟨a39,a40,a41,a42,a43⟩,⟨a44,a45,a46⟩,a47,a48,a49⟩,h13,h⟩:=sm h
   have o32 {os} (x:Obls (env Tryz.prog 7 Tryz.f7 call) n os):=o19 (zy h10 (zae h11 (zab (zu zC h12) (zX h10 (zae h1 (zab (zu GCode.zl h13) (zah h10 x)))))))
   rcases fk h with ⟨h14,h⟩ | ⟨h14,h⟩
   ·obtain⟨a50,h15,h⟩:=sm h
    rcases fk h with ⟨h16,h⟩ | ⟨h16,h⟩
    ·obtain⟨a51,h17,h⟩:=sm h
     rcases fk h with ⟨h18,h⟩ | ⟨h18,h⟩
     ·obtain⟨a52,rfl⟩:∃z_,z_=r:=⟨_,rfl⟩
      have h19:=h
      exact pK0 (o32 (zy h14 (zN (ht.zdM _ _ _ h15) (zi h14 (zX h16 (zN (ht.zei _ _ h17) (zX h16 (zy h18 (zN (ht.zeO _ _ _ h19) (zi h18 ob))))))))))
     ·cases h
      exact pK0 (o32 (zy h14 (zN (ht.zdM _ _ _ h15) (zi h14 (zX h16 (zN (ht.zei _ _ h17) (zX h16 (zah h18 ob))))))))
    ·cases h
     exact pK0 (o32 (zy h14 (zN (ht.zdM _ _ _ h15) (zi h14 (zah h16 (zah (rfl:false=false) ob))))))
   ·cases h
    exact pK0 (o32 (zah h14 (zW (rfl:false=false) 8 ob)))
  ·cases h
   exact pK0 (o19 (zW h10 9 (zW (rfl:false=false) 12 ob)))
 ·cases h
  exact pK0 (o6 (zW h6 9 (zW (rfl:false=false) 21 ob)))
theorem za5.ok {n:Nat} {t:Tab} (ht:TabOk t (run Tryz.prog own kp X n)):∀r,za5 t n=some r→run Tryz.prog own kp X (n+1) 7 [] []=some ((Bo r),[]):=by
 intro r h
 rw[za5]at h
 obtain⟨⟨⟨a1⟩,a2⟩,h1,h⟩:=sm h
 obtain⟨⟨a3,a4⟩,h2,h⟩:=sm h
 have o2 {os} (x:Obls (env Tryz.prog 7 Tryz.f7 (run Tryz.prog own kp X n)) n os):=zN (ht.zbh _ _ h1) (zN (ht.zd9 _ _ h2) x)
 rcases fk h with ⟨h3,h⟩ | ⟨h3,h⟩
 ·cases h
  exact zk Tryz.func7 (o2 (zy h3 (zck 30 ob))) (by kernel_rfl)
 ·rcases fk h with ⟨h4,h⟩ | ⟨h4,h⟩
  ·cases h
   exact zk Tryz.func7 (o2 (zy h3 (zW h4 5 (zck 25 ob)))) (by kernel_rfl)
  ·have o11 {os} (x:Obls (env Tryz.prog 7 Tryz.f7 (run Tryz.prog own kp X n)) n os):=o2 (zy h3 (zy h4 (zD (zn zC (l:=a1)) (zX h4 x))))
   rcases fk h with ⟨h5,h⟩ | ⟨h5,h⟩
   ·cases h
    exact zk Tryz.func7 (o11 (zW h5 7 (zck 18 ob))) (by kernel_rfl)
   ·obtain⟨h6,h⟩:=ck h
    obtain⟨a5,h7,h⟩:=sm h
    have o21 {os} (x:Obls (env Tryz.prog 7 Tryz.f7 (run Tryz.prog own kp X n)) n os):=o11 (zy h5 (zae h6 (zab (zu zC h7) (zX h5 (zD (zn GCode.zl (l:=a5)) (zX h5 x))))))
    rcases fk h with ⟨h8,h⟩ | ⟨h8,h⟩
    ·cases h
     exact zk Tryz.func7 (o21 (zW h8 10 (zck 8 ob))) (by kernel_rfl)
    ·obtain⟨h9,h⟩:=ck h
     obtain⟨⟨a6,a7,a8,⟨a9,a10,a11,a12,a13⟩,⟨a14,a15,a16⟩,a17,a18,a19⟩,h10,h⟩:=sm h
     have o36 {os} (x:Obls (env Tryz.prog 7 Tryz.f7 (run Tryz.prog own kp X n)) n os):=o21 (zy h8 (zae h6 (zab (zu zC h7) (zX h8 (zae h9 (zab (zu GCode.zl h10) (zy h8 (zD (zn zz (l:=a17)) (zX h8 x)))))))))
     rcases fk h with ⟨h11,h⟩ | ⟨h11,h⟩
     ·cases h
      exact zk Tryz.func7 (o36 (zW h11 7 (zck 1 ob))) (by kernel_rfl)
     ·obtain⟨h12,h⟩:=ck h
      obtain⟨a20,h13,h⟩:=sm h
      have o46 {os} (x:Obls (env Tryz.prog 7 Tryz.f7 (run Tryz.prog own kp X n)) n os):=o36 (zy h11 (zae h12 (zab (zu zC h13) (zX h11 (zD (zn GCode.zl (l:=a20)) (zX h11 x))))))
      rcases fk h with ⟨h14,h⟩ | ⟨h14,h⟩
      ·cases h
       exact zk Tryz.func7 (o46 (zi h14 ob)) (by kernel_rfl)
      ·obtain⟨a21,rfl⟩:∃z_,z_=r:=⟨_,rfl⟩
       have h15:=h
       exact zk Tryz.func7 (o46 (zi h14 (zI (zeD.ok ht n _ _ _ _ h15) ob))) (by kernel_rfl)
theorem zdk.ok {n:Nat} {t:Tab} (ht:TabOk t (run Tryz.prog own kp X n)):∀(p1:List GStep) r,zdk t n p1=some r→run Tryz.prog own kp X (n+1) 17 [(Sl 14 (GStep.ts p1))] []=some ((I6 r),[]):=by
 intro p1 r h
 obtain⟨a1,rfl⟩:∃z_,z_=p1:=⟨_,rfl⟩
 rw[zdk]at h
 obtain⟨a2,h1,h⟩:=sm h
 rcases fk h with ⟨h2,h⟩ | ⟨h2,h⟩
 ·cases h
  exact zk Tryz.func17 (zN (ht.zbY _ _ h1) (zah h2 (zck 1 ob))) (by kernel_rfl)
 ·obtain⟨a3,h3,h⟩:=sm h
  rcases fk h with ⟨h4,h⟩ | ⟨h4,h⟩
  ·cases h
   exact zk Tryz.func17 (zN (ht.zbY _ _ h1) (zX h2 (zN (ht.zaT _ _ _ h3) (zX h2 (zi (ng h4) ob))))) (by kernel_rfl)
  ·cases h
   exact zk Tryz.func17 (zN (ht.zbY _ _ h1) (zX h2 (zN (ht.zaT _ _ _ h3) (zX h2 (zi (ng h4) ob))))) (by kernel_rfl)
theorem zbY.ok {n:Nat} {t:Tab} (ht:TabOk t (run Tryz.prog own kp X n)):∀(p1:List GStep) r,zbY t n p1=some r→run Tryz.prog own kp X (n+1) 18 [(Sl 14 (GStep.ts p1))] []=some ((I6 r),[]):=by
 intro p1 r h
 obtain⟨a1,rfl⟩:∃z_,z_=p1:=⟨_,rfl⟩
 rw[zbY]at h
 obtain⟨a2,h1,h⟩:=sm h
 cases h
 exact zk Tryz.func18 (zN (ht.zb9 _ _ _ _ h1) ob) (by kernel_rfl)
theorem zdT.ok {n:Nat} {t:Tab} (ht:TabOk t (run Tryz.prog own kp X n)):∀(p1:List GStep) r,zdT t n p1=some r→run Tryz.prog own kp X (n+1) 19 [(Sl 14 (GStep.ts p1))] []=some ((I6 r),[]):=by
 intro p1 r h
 obtain⟨a1,rfl⟩:∃z_,z_=p1:=⟨_,rfl⟩
 rw[zdT]at h
 obtain⟨a2,rfl⟩:∃z_,z_=r:=⟨_,rfl⟩
 have h1:=h
 exact zk Tryz.func19 (zN (ht.zdn _ _ _ h1) ob) (by kernel_rfl)
theorem zbh.ok {n:Nat} {t:Tab} (ht:TabOk t (run Tryz.prog own kp X n)):∀(p1:List GStep) r,zbh t n p1=some r→run Tryz.prog own kp X (n+1) 9 [(Sl 14 (GStep.ts p1))] []=some ((.tup [(GProg.t r.1),(.v (.int .i64 r.2))]),[]):=by
 intro p1 r h
 obtain⟨a1,rfl⟩:∃z_,z_=p1:=⟨_,rfl⟩
 rw[zbh]at h
 obtain⟨a2,h1,h⟩:=sm h
 rcases fk h with ⟨h2,h⟩ | ⟨h2,h⟩
 ·cases h
  exact zk Tryz.func9 (zN (ht.zdo _ _ h1) (zi h2 (zfx (zeT (l:=([]:List (List GCode)))) ob))) (by kernel_rfl)
 ·obtain⟨a3,h3,h⟩:=sm h
  obtain⟨⟨a4,⟨a5⟩⟩,h4,h⟩:=sm h
  cases h
  exact zk Tryz.func9 (zN (ht.zdo _ _ h1) (zi h2 (zN (ht.zed _ _ h3) (zN (ht.zaR _ _ _ h4) (zfx (zeT (l:=a5)) ob))))) (by kernel_rfl)
theorem zcQ.ok (ht:TabOk t call) (n:Nat) (a1:List GStep) (a2 a3 a4 a5:Int) (a6:List (List GStep)) (a7:Int) (r:_) (h:zcQ t n a1 a2 a3 a4 a5 a6 a7=some r):exec (env Tryz.prog 20 Tryz.f20 call) n (sub [1,1,0,1,0,0,1,0,0,1,1,1,1,0,0,1] (zq Tryz.f20)) (mkSt 80 80 [(0,(Sl 14 (GStep.ts a1))),(1,(I6 a2)),(2,(I6 a3)),(7,(I6 a4)),(8,(I6 a5)),(10,(Sl 1 (zo a6))),(11,(I6 a7))] [])=some (zcQ.to r):=by
 rw[zcQ]at h
 rcases fk h with ⟨h1,h⟩ | ⟨h1,h⟩
 ·cases h
  exact pK0 (zi h1 ob)
 ·obtain⟨h2,h⟩:=ck h
  obtain⟨a8,h3,h⟩:=sm h
  obtain⟨a9,h4,h⟩:=sm h
  cases h
  exact pK0 (zi h1 (zae h2 (zab (zu zx h3) (zN (ht.zb4 _ _ _ _ h4) ob))))
theorem zbe.okL (ht:TabOk t call) (n:Nat):∀(k:Nat) (a1:List GStep) (a2 a3 a4 a5:Int) (a6:List (List GStep)) (a7:Int) (r:_),zbe t n k a1 a2 a3 a4 a5 a6 a7=some r→loopN (exec (env Tryz.prog 20 Tryz.f20 call) n (sub [1,1,0,1,0,0,1,0,0,1,1,1,1,0,0] (zq Tryz.f20))) k (mkSt 80 80 [(0,(Sl 14 (GStep.ts a1))),(1,(I6 a2)),(2,(I6 a3)),(7,(I6 a4)),(8,(I6 a5)),(10,(Sl 1 (zo a6))),(11,(I6 a7))] [])=some (zbe.to r)
 | 0,a1,a2,a3,a4,a5,a6,a7,r,h=>by rw[zbe]at h;cases h
 | k+1,a1,a2,a3,a4,a5,a6,a7,r,h=>by
  rw[zbe]at h
  rcases fk h with ⟨h1,h⟩ | ⟨h1,h⟩
  ·have o5 {os} (x:Obls (env Tryz.prog 20 Tryz.f20 call) n os):=zD (zn zx (l:=a6)) (zah h1 x)
   rcases fk h with ⟨h2,h⟩ | ⟨h2,h⟩
   ·obtain⟨a8 | ⟨a9,a10,a11,a12,a13,a14,a15⟩,h3,h⟩:=sm h
    ·cases h
     exact zw (pK0 (o5 (zi h2 (zI (zcQ.ok ht n _ _ _ _ _ _ _ _ h3) ob)))) (fun h=>by cases h)
    ·exact zF (pK0 (o5 (zi h2 (zI (zcQ.ok ht n _ _ _ _ _ _ _ _ h3) ob)))) (zbe.okL ht n k _ _ _ _ _ _ _ _ h)
   ·cases h
    exact zw (pK0 (o5 (zi h2 ob))) (fun h=>by cases h)
  ·cases h
   exact zw (pK0 (zD (zn zx (l:=a6)) (zah h1 (zi (rfl:false=false) ob)))) (fun h=>by cases h)
theorem zcl.ok (ht:TabOk t call) (n:Nat) (a1:List GStep) (a2 a3 a4 a5:Int) (r:_) (h:zcl t n a1 a2 a3 a4 a5=some r):exec (env Tryz.prog 20 Tryz.f20 call) n (sub [1,1,0,1,0,0,1] (zq Tryz.f20)) (mkSt 80 80 [(0,(Sl 14 (GStep.ts a1))),(1,(I6 a2)),(2,(I6 a3)),(7,(I6 a4)),(8,(I6 a5))] [])=some (zcl.to r):=by
 rw[zcl]at h
 obtain⟨h1,h⟩:=ck h
 obtain⟨⟨a6,a7,a8,⟨a9,a10,a11,a12,a13⟩,⟨a14,a15,a16⟩,a17,a18,a19⟩,h2,h⟩:=sm h
 obtain⟨a20,h3,h⟩:=sm h
 obtain⟨a21,h4,h⟩:=sm h
 obtain⟨a22,h5,h⟩:=sm h
 have o8 {os} (x:Obls (env Tryz.prog 20 Tryz.f20 call) n os):=zae h1 (zab (zu GStep.zl h2) (zD (zn zJ (l:=a7)) (zD (zn zz (l:=a8)) (zD (zn zJ (l:=a19)) (zN (ht.zbZ _ _ _ h3) (zN (ht.zdl _ _ _ h4) (zN (ht.zb0 _ _ h5) x)))))))
 obtain⟨a23 | ⟨a24,a25,a26,a27,a28,a29,a30,a31⟩,h6,h⟩:=sm h
 ·cases h
  exact pK0 (o8 (zaS (lk (sub [1,1,0,1,0,0,1,0,0,1,1,1,1,0] (zq Tryz.f20)) (by kernel_rfl) (zbe.okL ht n n _ _ _ _ _ _ _ _ h6)) ob))
 ·cases h
  exact pK0 (o8 (zaS (lk (sub [1,1,0,1,0,0,1,0,0,1,1,1,1,0] (zq Tryz.f20)) (by kernel_rfl) (zbe.okL ht n n _ _ _ _ _ _ _ _ h6)) ob))
theorem zbf.okL (ht:TabOk t call) (n:Nat):∀(k:Nat) (a1:List GStep) (a2 a3 a4 a5:Int) (r:_),zbf t n k a1 a2 a3 a4 a5=some r→loopN (exec (env Tryz.prog 20 Tryz.f20 call) n (sub [1,1,0,1,0,0] (zq Tryz.f20))) k (mkSt 80 80 [(0,(Sl 14 (GStep.ts a1))),(1,(I6 a2)),(2,(I6 a3)),(7,(I6 a4)),(8,(I6 a5))] [])=some (zbf.to r)
 | 0,a1,a2,a3,a4,a5,r,h=>by rw[zbf]at h;cases h
 | k+1,a1,a2,a3,a4,a5,r,h=>by
  rw[zbf]at h
  rcases fk h with ⟨h1,h⟩ | ⟨h1,h⟩
  ·rcases fk h with ⟨h2,h⟩ | ⟨h2,h⟩
   ·obtain⟨a6 | ⟨a7,a8,a9,a10,a11⟩,h3,h⟩:=sm h
    ·cases h
     exact zw (pK0 (zD (zn GStep.zl (l:=a1)) (zah h1 (zi h2 (zI (zcl.ok ht n _ _ _ _ _ _ h3) ob))))) (fun h=>by cases h)
    ·exact zF (pK0 (zD (zn GStep.zl (l:=a1)) (zah h1 (zi h2 (zI (zcl.ok ht n _ _ _ _ _ _ h3) ob))))) (zbf.okL ht n k _ _ _ _ _ _ h)
   ·cases h
    exact zw (pK0 (zD (zn GStep.zl (l:=a1)) (zah h1 (zi h2 ob)))) (fun h=>by cases h)
  ·cases h
   exact zw (pK0 (zD (zn GStep.zl (l:=a1)) (zah h1 (zi (rfl:false=false) ob)))) (fun h=>by cases h)
theorem zb4.ok {n:Nat} {t:Tab} (ht:TabOk t (run Tryz.prog own kp X n)):∀(p1:List GStep) (p2:Int) (p3:Int) r,zb4 t n p1 p2 p3=some r→run Tryz.prog own kp X (n+1) 20 [(Sl 14 (GStep.ts p1)),(I6 p2),(I6 p3)] []=some ((I6 r),[]):=by
 intro p1 p2 p3 r h
 obtain⟨a1,rfl⟩:∃z_,z_=p1:=⟨_,rfl⟩
 obtain⟨a2,rfl⟩:∃z_,z_=p2:=⟨_,rfl⟩
 obtain⟨a3,rfl⟩:∃z_,z_=p3:=⟨_,rfl⟩
 rw[zb4]at h
 obtain⟨a4 | ⟨a5,a6,a7,a8,a9,a10⟩,h1,h⟩:=sm h
 ·cases h
  exact zk Tryz.func20 (zaS (lk (sub [1,1,0,1,0] (zq Tryz.f20)) (by kernel_rfl) (zbf.okL ht n n _ _ _ _ _ _ h1)) ob) (by kernel_rfl)
 ·cases h
  exact zk Tryz.func20 (zaS (lk (sub [1,1,0,1,0] (zq Tryz.f20)) (by kernel_rfl) (zbf.okL ht n n _ _ _ _ _ _ h1)) ob) (by kernel_rfl)
theorem zd9.ok {n:Nat} {t:Tab} (ht:TabOk t (run Tryz.prog own kp X n)):∀(p1:GProg) r,zd9 t n p1=some r→run Tryz.prog own kp X (n+1) 12 [(.t (GProg.t p1))] []=some ((.tup [(.sl false 14 (GStep.ts r.1)),(.v (.int .i64 r.2))]),[]):=by
 intro p1 r h
 obtain⟨a1⟩:=p1
 rw[zd9]at h
 obtain⟨⟨a2,a3,⟨a4,a5⟩⟩,h1,h⟩:=sm h
 rcases fk h with ⟨h2,h⟩ | ⟨h2,h⟩
 ·have o11 {os} (x:Obls (env Tryz.prog 12 Tryz.f12 (run Tryz.prog own kp X n)) n os):=zN (ht.zaP _ _ _ h1) (zW (ng h2) 7 (zD (zn zC (l:=a1)) (zX (ng h2) x)))
  rcases fk h with ⟨h3,h⟩ | ⟨h3,h⟩
  ·cases h
   exact zk Tryz.func12 (o11 (zah h3 (zck 1 ob))) (by kernel_rfl)
  ·obtain⟨a6,h4,h⟩:=sm h
   rcases fk h with ⟨h5,h⟩ | ⟨h5,h⟩
   ·cases h
    exact zk Tryz.func12 (o11 (zX h3 (zN (ht.zdo _ _ h4) (zX h3 (zi h5 ob))))) (by kernel_rfl)
   ·obtain⟨a7,h6,h⟩:=sm h
    cases h
    exact zk Tryz.func12 (o11 (zX h3 (zN (ht.zdo _ _ h4) (zX h3 (zi h5 (zN (ht.zed _ _ h6) ob)))))) (by kernel_rfl)
 ·cases h
  exact zk Tryz.func12 (zN (ht.zaP _ _ _ h1) (zW (ng h2) 9 (zck 5 ob))) (by kernel_rfl)
theorem zdE.okL (ht:TabOk t call) (n:Nat):∀(k:Nat) (a1 a2:List GStep) (a3 a4 a5:Int) (a6:List ByteArray) (a7:List Int) (a8 a9:Int) (a10:ByteArray) (a11 a12:List zh) (a13:Int) (a14:List zh) (a15:List GPred) (a16:List (List GStep)) (a17:List GBy) (a18:List ByteArray) (a19:Int) (a20:List ByteArray) (a21:List Int) (a22 a23:Int) (a24:ByteArray) (a25 a26:List zh) (a27:Int) (a28:List zh) (a29:List GPred) (a30:List (List GStep)) (a31:List GBy) (a32:List ByteArray) (r:_),zdE t n k a1 a2 a3 a4 a5 a6 a7 a8 a9 a10 a11 a12 a13 a14 a15 a16 a17 a18 a19 a20 a21 a22 a23 a24 a25 a26 a27 a28 a29 a30 a31 a32=some r→loopN (exec (env Tryz.prog 13 Tryz.f13 call) n (sub [1,1,0,1,0,0,1,0,0,1,1,1,0,1,0,0] (zq Tryz.f13))) k (mkSt 177 177 [(0,(Sl 14 (GStep.ts a1))),(1,(Sl 14 (GStep.ts a2))),(5,(I6 a3)),(6,(.ptr 6 0 [] 0)),(7,(.ptr 7 0 [] 0)),(8,(I6 a4))] [(6,(.t (.st [(.v (.int .i64 a5)),(.sl false 1 (texts a6)),(.sl false 1 (zA a7)),(.st [(.v (.int .i64 a8)),(.v (.int .i64 a9)),(.v (.string a10)),(.sl false 5 (zh.ts a11)),(.sl false 5 (zh.ts a12))]),(.st [(.v (.int .i64 a13)),(.sl false 5 (zh.ts a14)),(.sl false 3 (GPred.ts a15))]),(.sl false 1 (zo a16)),(.sl false 4 (GBy.ts a17)),(.sl false 1 (texts a18))]))),(7,(.t (.st [(.v (.int .i64 a19)),(.sl false 1 (texts a20)),(.sl false 1 (zA a21)),(.st [(.v (.int .i64 a22)),(.v (.int .i64 a23)),(.v (.string a24)),(.sl false 5 (zh.ts a25)),(.sl false 5 (zh.ts a26))]),(.st [(.v (.int .i64 a27)),(.sl false 5 (zh.ts a28)),(.sl false 3 (GPred.ts a29))]),(.sl false 1 (zo a30)),(.sl false 4 (GBy.ts a31)),(.sl false 1 (texts a32))])))])=some (zdE.to r)
 | 0,a1,a2,a3,a4,a5,a6,a7,a8,a9,a10,a11,a12,a13,a14,a15,a16,a17,a18,a19,a20,a21,a22,a23,a24,a25,a26,a27,a28,a29,a30,a31,a32,r,h=>by rw[zdE]at h;cases h
 | k+1,a1,a2,a3,a4,a5,a6,a7,a8,a9,a10,a11,a12,a13,a14,a15,a16,a17,a18,a19,a20,a21,a22,a23,a24,a25,a26,a27,a28,a29,a30,a31,a32,r,h=>by
  rw[zdE]at h
  rcases fk h with ⟨h1,h⟩ | ⟨h1,h⟩
  ·obtain⟨h2,h⟩:=ck h
   obtain⟨a33,h3,h⟩:=sm h
   obtain⟨a34,h4,h⟩:=sm h
   obtain⟨a35,h5,h⟩:=sm h
   have o7 {os} (x:Obls (env Tryz.prog 13 Tryz.f13 call) n os):=zD (zn zx (l:=a16)) (zi h1 (zae h2 (zab (zu zx h3) (zae h2 (zab (zu zx h4) (zN (ht.zdM _ _ _ h5) x))))))
   rcases fk h with ⟨h6,h⟩ | ⟨h6,h⟩
   ·exact zF (pK0 (o7 (zi (ng h6) ob))) (zdE.okL ht n k _ _ _ _ _ _ _ _ _ _ _ _ _ _ _ _ _ _ _ _ _ _ _ _ _ _ _ _ _ _ _ _ _ h)
   ·cases h
    exact zw (pK0 (o7 (zi (ng h6) ob))) (fun h=>by cases h)
  ·cases h
   exact zw (pK0 (zD (zn zx (l:=a16)) (zi h1 ob))) (fun h=>by cases h)
theorem zdQ.okL (ht:TabOk t call) (n:Nat):∀(k:Nat) (a1 a2:List GStep) (a3 a4 a5:Int) (a6:List ByteArray) (a7:List Int) (a8 a9:Int) (a10:ByteArray) (a11 a12:List zh) (a13:Int) (a14:List zh) (a15:List GPred) (a16:List (List GStep)) (a17:List GBy) (a18:List ByteArray) (a19:Int) (a20:List ByteArray) (a21:List Int) (a22 a23:Int) (a24:ByteArray) (a25 a26:List zh) (a27:Int) (a28:List zh) (a29:List GPred) (a30:List (List GStep)) (a31:List GBy) (a32:List ByteArray) (r:_),zdQ t n k a1 a2 a3 a4 a5 a6 a7 a8 a9 a10 a11 a12 a13 a14 a15 a16 a17 a18 a19 a20 a21 a22 a23 a24 a25 a26 a27 a28 a29 a30 a31 a32=some r→loopN (exec (env Tryz.prog 13 Tryz.f13 call) n (sub [1,1,0,1,0,0,1,0,0,1,1,1,1,1,0,0] (zq Tryz.f13))) k (mkSt 177 177 [(0,(Sl 14 (GStep.ts a1))),(1,(Sl 14 (GStep.ts a2))),(5,(I6 a3)),(6,(.ptr 6 0 [] 0)),(7,(.ptr 7 0 [] 0)),(9,(I6 a4))] [(6,(.t (.st [(.v (.int .i64 a5)),(.sl false 1 (texts a6)),(.sl false 1 (zA a7)),(.st [(.v (.int .i64 a8)),(.v (.int .i64 a9)),(.v (.string a10)),(.sl false 5 (zh.ts a11)),(.sl false 5 (zh.ts a12))]),(.st [(.v (.int .i64 a13)),(.sl false 5 (zh.ts a14)),(.sl false 3 (GPred.ts a15))]),(.sl false 1 (zo a16)),(.sl false 4 (GBy.ts a17)),(.sl false 1 (texts a18))]))),(7,(.t (.st [(.v (.int .i64 a19)),(.sl false 1 (texts a20)),(.sl false 1 (zA a21)),(.st [(.v (.int .i64 a22)),(.v (.int .i64 a23)),(.v (.string a24)),(.sl false 5 (zh.ts a25)),(.sl false 5 (zh.ts a26))]),(.st [(.v (.int .i64 a27)),(.sl false 5 (zh.ts a28)),(.sl false 3 (GPred.ts a29))]),(.sl false 1 (zo a30)),(.sl false 4 (GBy.ts a31)),(.sl false 1 (texts a32))])))])=some (zdQ.to r)
 | 0,a1,a2,a3,a4,a5,a6,a7,a8,a9,a10,a11,a12,a13,a14,a15,a16,a17,a18,a19,a20,a21,a22,a23,a24,a25,a26,a27,a28,a29,a30,a31,a32,r,h=>by rw[zdQ]at h;cases h
 | k+1,a1,a2,a3,a4,a5,a6,a7,a8,a9,a10,a11,a12,a13,a14,a15,a16,a17,a18,a19,a20,a21,a22,a23,a24,a25,a26,a27,a28,a29,a30,a31,a32,r,h=>by
  rw[zdQ]at h
  rcases fk h with ⟨h1,h⟩ | ⟨h1,h⟩
  ·obtain⟨h2,h⟩:=ck h
   obtain⟨⟨a33,a34,a35,a36⟩,h3,h⟩:=sm h
   obtain⟨⟨a37,a38,a39,a40⟩,h4,h⟩:=sm h
   have o6 {os} (x:Obls (env Tryz.prog 13 Tryz.f13 call) n os):=zD (zn GBy.zl (l:=a17)) (zi h1 (zae h2 (zab (zu GBy.zl h3) (zae h2 (zab (zu GBy.zl h4) x)))))
   rcases fk h with ⟨h5,h⟩ | ⟨h5,h⟩
   ·cases h
    exact zw (pK0 (o6 (zW h5 14 (zck 30 ob)))) (fun h=>by cases h)
   ·have o24 {os} (x:Obls (env Tryz.prog 13 Tryz.f13 call) n os):=o6 (zah h5 (zae h2 (zab (zu GBy.zl h3) (zW h5 6 (zae h2 (zab (zu GBy.zl h4) (zah h5 x)))))))
    rcases fk h with ⟨h6,h⟩ | ⟨h6,h⟩
    ·have o42 {os} (x:Obls (env Tryz.prog 13 Tryz.f13 call) n os):=o24 (zah (ng h6) (zae h2 (zab (zu GBy.zl h3) (zW (ng h6) 6 (zae h2 (zab (zu GBy.zl h4) (zah (ng h6) x)))))))
     rcases fk h with ⟨h7,h⟩ | ⟨h7,h⟩
     ·obtain⟨a41,h8,h⟩:=sm h
      have o62 {os} (x:Obls (env Tryz.prog 13 Tryz.f13 call) n os):=o42 (zah (ng h7) (zae h2 (zab (zu GBy.zl h3) (zW (ng h7) 6 (zae h2 (zab (zu GBy.zl h4) (zy (ng h7) (zN (ht.zdM _ _ _ h8) (zX (ng h7) x)))))))))
      rcases fk h with ⟨h9,h⟩ | ⟨h9,h⟩
      ·exact zF (pK0 (o62 (zi (ng h9) ob))) (zdQ.okL ht n k _ _ _ _ _ _ _ _ _ _ _ _ _ _ _ _ _ _ _ _ _ _ _ _ _ _ _ _ _ _ _ _ _ h)
      ·cases h
       exact zw (pK0 (o62 (zi (ng h9) ob))) (fun h=>by cases h)
     ·cases h
      exact zw (pK0 (o42 (zW (ng h7) 15 (zck 1 ob)))) (fun h=>by cases h)
    ·cases h
     exact zw (pK0 (o24 (zW (ng h6) 14 (zck 16 ob)))) (fun h=>by cases h)
  ·cases h
   exact zw (pK0 (zD (zn GBy.zl (l:=a17)) (zi h1 ob))) (fun h=>by cases h)
theorem zeu.ok (ht:TabOk t call) (n:Nat) (a1 a2:List GStep) (a3 a4:Int) (a5:List ByteArray) (a6:List Int) (a7 a8:Int) (a9:ByteArray) (a10 a11:List zh) (a12:Int) (a13:List zh) (a14:List GPred) (a15:List (List GStep)) (a16:List GBy) (a17:List ByteArray) (a18:Int) (a19:List ByteArray) (a20:List Int) (a21 a22:Int) (a23:ByteArray) (a24 a25:List zh) (a26:Int) (a27:List zh) (a28:List GPred) (a29:List (List GStep)) (a30:List GBy) (a31:List ByteArray) (r:_) (h:zeu t n a1 a2 a3 a4 a5 a6 a7 a8 a9 a10 a11 a12 a13 a14 a15 a16 a17 a18 a19 a20 a21 a22 a23 a24 a25 a26 a27 a28 a29 a30 a31=some r):exec (env Tryz.prog 13 Tryz.f13 call) n (sub [1,1,0,1,0,0,1,0,0,1,1,1,1] (zq Tryz.f13)) (mkSt 177 177 [(0,(Sl 14 (GStep.ts a1))),(1,(Sl 14 (GStep.ts a2))),(5,(I6 a3)),(6,(.ptr 6 0 [] 0)),(7,(.ptr 7 0 [] 0))] [(6,(.t (.st [(.v (.int .i64 a4)),(.sl false 1 (texts a5)),(.sl false 1 (zA a6)),(.st [(.v (.int .i64 a7)),(.v (.int .i64 a8)),(.v (.string a9)),(.sl false 5 (zh.ts a10)),(.sl false 5 (zh.ts a11))]),(.st [(.v (.int .i64 a12)),(.sl false 5 (zh.ts a13)),(.sl false 3 (GPred.ts a14))]),(.sl false 1 (zo a15)),(.sl false 4 (GBy.ts a16)),(.sl false 1 (texts a17))]))),(7,(.t (.st [(.v (.int .i64 a18)),(.sl false 1 (texts a19)),(.sl false 1 (zA a20)),(.st [(.v (.int .i64 a21)),(.v (.int .i64 a22)),(.v (.string a23)),(.sl false 5 (zh.ts a24)),(.sl false 5 (zh.ts a25))]),(.st [(.v (.int .i64 a26)),(.sl false 5 (zh.ts a27)),(.sl false 3 (GPred.ts a28))]),(.sl false 1 (zo a29)),(.sl false 4 (GBy.ts a30)),(.sl false 1 (texts a31))])))])=some (zeu.to r):=by
 rw[zeu]at h
 obtain⟨a32 | ⟨a33,a34,a35,a36,a37,a38,a39,a40,a41,a42,a43,a44,a45,a46,a47,a48,a49,a50,a51,a52,a53,a54,a55,a56,a57,a58,a59,a60,a61,a62,a63,a64,a65⟩,h1,h⟩:=sm h
 ·cases h
  exact pK0 (zaS (lk (sub [1,1,0,1,0,0,1,0,0,1,1,1,1,1,0] (zq Tryz.f13)) (by kernel_rfl) (zdQ.okL ht n n _ _ _ _ _ _ _ _ _ _ _ _ _ _ _ _ _ _ _ _ _ _ _ _ _ _ _ _ _ _ _ _ _ h1)) ob)
 ·cases h
  exact pK0 (zaS (lk (sub [1,1,0,1,0,0,1,0,0,1,1,1,1,1,0] (zq Tryz.f13)) (by kernel_rfl) (zdQ.okL ht n n _ _ _ _ _ _ _ _ _ _ _ _ _ _ _ _ _ _ _ _ _ _ _ _ _ _ _ _ _ _ _ _ _ h1)) ob)
theorem zdF.ok (ht:TabOk t call) (n:Nat) (a1 a2:List GStep) (a3 a4:Int) (a5:List ByteArray) (a6:List Int) (a7 a8:Int) (a9:ByteArray) (a10 a11:List zh) (a12:Int) (a13:List zh) (a14:List GPred) (a15:List (List GStep)) (a16:List GBy) (a17:List ByteArray) (a18:Int) (a19:List ByteArray) (a20:List Int) (a21 a22:Int) (a23:ByteArray) (a24 a25:List zh) (a26:Int) (a27:List zh) (a28:List GPred) (a29:List (List GStep)) (a30:List GBy) (a31:List ByteArray) (r:_) (h:zdF t n a1 a2 a3 a4 a5 a6 a7 a8 a9 a10 a11 a12 a13 a14 a15 a16 a17 a18 a19 a20 a21 a22 a23 a24 a25 a26 a27 a28 a29 a30 a31=some r):exec (env Tryz.prog 13 Tryz.f13 call) n (sub [1,1,0,1,0,0,1,0,0,1,1,1] (zq Tryz.f13)) (mkSt 177 177 [(0,(Sl 14 (GStep.ts a1))),(1,(Sl 14 (GStep.ts a2))),(5,(I6 a3)),(6,(.ptr 6 0 [] 0)),(7,(.ptr 7 0 [] 0))] [(6,(.t (.st [(.v (.int .i64 a4)),(.sl false 1 (texts a5)),(.sl false 1 (zA a6)),(.st [(.v (.int .i64 a7)),(.v (.int .i64 a8)),(.v (.string a9)),(.sl false 5 (zh.ts a10)),(.sl false 5 (zh.ts a11))]),(.st [(.v (.int .i64 a12)),(.sl false 5 (zh.ts a13)),(.sl false 3 (GPred.ts a14))]),(.sl false 1 (zo a15)),(.sl false 4 (GBy.ts a16)),(.sl false 1 (texts a17))]))),(7,(.t (.st [(.v (.int .i64 a18)),(.sl false 1 (texts a19)),(.sl false 1 (zA a20)),(.st [(.v (.int .i64 a21)),(.v (.int .i64 a22)),(.v (.string a23)),(.sl false 5 (zh.ts a24)),(.sl false 5 (zh.ts a25))]),(.st [(.v (.int .i64 a26)),(.sl false 5 (zh.ts a27)),(.sl false 3 (GPred.ts a28))]),(.sl false 1 (zo a29)),(.sl false 4 (GBy.ts a30)),(.sl false 1 (texts a31))])))])=some (zdF.to r):=by
 rw[zdF]at h
 obtain⟨a32 | ⟨a33,a34,a35,a36,a37,a38,a39,a40,a41,a42,a43,a44,a45,a46,a47,a48,a49,a50,a51,a52,a53,a54,a55,a56,a57,a58,a59,a60,a61,a62,a63,a64,a65⟩,h1,h⟩:=sm h
 ·cases h
  exact pK0 (zaS (lk (sub [1,1,0,1,0,0,1,0,0,1,1,1,0,1,0] (zq Tryz.f13)) (by kernel_rfl) (zdE.okL ht n n _ _ _ _ _ _ _ _ _ _ _ _ _ _ _ _ _ _ _ _ _ _ _ _ _ _ _ _ _ _ _ _ _ h1)) ob)
 ·have h2:=h
  rcases r with a66 | ⟨a67,a68,a69⟩
  ·exact pK0 (zaS (lk (sub [1,1,0,1,0,0,1,0,0,1,1,1,0,1,0] (zq Tryz.f13)) (by kernel_rfl) (zdE.okL ht n n _ _ _ _ _ _ _ _ _ _ _ _ _ _ _ _ _ _ _ _ _ _ _ _ _ _ _ _ _ _ _ _ _ h1)) (zI (zeu.ok ht n _ _ _ _ _ _ _ _ _ _ _ _ _ _ _ _ _ _ _ _ _ _ _ _ _ _ _ _ _ _ _ _ h2) ob))
  ·exact pK0 (zaS (lk (sub [1,1,0,1,0,0,1,0,0,1,1,1,0,1,0] (zq Tryz.f13)) (by kernel_rfl) (zdE.okL ht n n _ _ _ _ _ _ _ _ _ _ _ _ _ _ _ _ _ _ _ _ _ _ _ _ _ _ _ _ _ _ _ _ _ h1)) (zI (zeu.ok ht n _ _ _ _ _ _ _ _ _ _ _ _ _ _ _ _ _ _ _ _ _ _ _ _ _ _ _ _ _ _ _ _ h2) ob))
theorem zdR.okL (ht:TabOk t call) (n:Nat):∀(k:Nat) (a1 a2:List GStep) (a3:Int) (r:_),zdR t n k a1 a2 a3=some r→loopN (exec (env Tryz.prog 13 Tryz.f13 call) n (sub [1,1,0,1,0,0] (zq Tryz.f13))) k (mkSt 177 177 [(0,(Sl 14 (GStep.ts a1))),(1,(Sl 14 (GStep.ts a2))),(5,(I6 a3))] [])=some (zdR.to r)
 | 0,a1,a2,a3,r,h=>by rw[zdR]at h;cases h
 | k+1,a1,a2,a3,r,h=>by
  rw[zdR]at h
  rcases fk h with ⟨h1,h⟩ | ⟨h1,h⟩
  ·obtain⟨h2,h⟩:=ck h
   obtain⟨⟨a4,a5,a6,⟨a7,a8,a9,a10,a11⟩,⟨a12,a13,a14⟩,a15,a16,a17⟩,h3,h⟩:=sm h
   obtain⟨⟨a18,a19,a20,⟨a21,a22,a23,a24,a25⟩,⟨a26,a27,a28⟩,a29,a30,a31⟩,h4,h⟩:=sm h
   have o6 {os} (x:Obls (env Tryz.prog 13 Tryz.f13 call) n os):=zD (zn GStep.zl (l:=a1)) (zi h1 (zae h2 (zab (zu GStep.zl h3) (zae h2 (zab (zu GStep.zl h4) x)))))
   rcases fk h with ⟨h5,h⟩ | ⟨h5,h⟩
   ·cases h
    exact zw (pK0 (o6 (zW h5 7 (zck 45 ob)))) (fun h=>by cases h)
   ·obtain⟨a32,h6,h⟩:=sm h
    have o14 {os} (x:Obls (env Tryz.prog 13 Tryz.f13 call) n os):=o6 (zW h5 5 (zN (ht.zcz _ _ _ h6) (zX h5 x)))
    rcases fk h with ⟨h7,h⟩ | ⟨h7,h⟩
    ·obtain⟨a33,h8,h⟩:=sm h
     have o22 {os} (x:Obls (env Tryz.prog 13 Tryz.f13 call) n os):=o14 (zW (ng h7) 5 (zN (ht.zcT _ _ _ h8) (zX (ng h7) x)))
     rcases fk h with ⟨h9,h⟩ | ⟨h9,h⟩
     ·obtain⟨a34,h10,h⟩:=sm h
      have o30 {os} (x:Obls (env Tryz.prog 13 Tryz.f13 call) n os):=o22 (zW (ng h9) 5 (zN (ht.zcz _ _ _ h10) (zX (ng h9) x)))
      rcases fk h with ⟨h11,h⟩ | ⟨h11,h⟩
      ·obtain⟨a35,h12,h⟩:=sm h
       have o38 {os} (x:Obls (env Tryz.prog 13 Tryz.f13 call) n os):=o30 (zW (ng h11) 5 (zN (ht.zcD _ _ _ h12) (zX (ng h11) x)))
       rcases fk h with ⟨h13,h⟩ | ⟨h13,h⟩
       ·obtain⟨a36,h14,h⟩:=sm h
        have o46 {os} (x:Obls (env Tryz.prog 13 Tryz.f13 call) n os):=o38 (zW (ng h13) 5 (zN (ht.zb5 _ _ _ h14) (zX (ng h13) x)))
        rcases fk h with ⟨h15,h⟩ | ⟨h15,h⟩
        ·have o56 {os} (x:Obls (env Tryz.prog 13 Tryz.f13 call) n os):=o46 (zy (ng h15) (zD (zn zx (l:=a15)) (zy (ng h15) (zD (zn zx (l:=a29)) (zX (ng h15) x)))))
         rcases fk h with ⟨h16,h⟩ | ⟨h16,h⟩
         ·cases h
          exact zw (pK0 (o56 (zW h16 8 (zck 1 ob)))) (fun h=>by cases h)
         ·have o66 {os} (x:Obls (env Tryz.prog 13 Tryz.f13 call) n os):=o56 (zy h16 (zD (zn GBy.zl (l:=a16)) (zy h16 (zD (zn GBy.zl (l:=a30)) (zX h16 x)))))
          rcases fk h with ⟨h17,h⟩ | ⟨h17,h⟩
          ·cases h
           exact zw (pK0 (o66 (zi h17 ob))) (fun h=>by cases h)
          ·obtain⟨a37 | ⟨a38,a39,a40⟩,h18,h⟩:=sm h
           ·cases h
            exact zw (pK0 (o66 (zi h17 (zI (zdF.ok ht n _ _ _ _ _ _ _ _ _ _ _ _ _ _ _ _ _ _ _ _ _ _ _ _ _ _ _ _ _ _ _ _ h18) ob)))) (fun h=>by cases h)
           ·exact zF (pK0 (o66 (zi h17 (zI (zdF.ok ht n _ _ _ _ _ _ _ _ _ _ _ _ _ _ _ _ _ _ _ _ _ _ _ _ _ _ _ _ _ _ _ _ h18) ob)))) (zdR.okL ht n k _ _ _ _ h)
        ·cases h
         exact zw (pK0 (o46 (zW (ng h15) 8 (zck 9 ob)))) (fun h=>by cases h)
       ·cases h
        exact zw (pK0 (o38 (zW (ng h13) 7 (zck 17 ob)))) (fun h=>by cases h)
      ·cases h
       exact zw (pK0 (o30 (zW (ng h11) 7 (zck 24 ob)))) (fun h=>by cases h)
     ·cases h
      exact zw (pK0 (o22 (zW (ng h9) 7 (zck 31 ob)))) (fun h=>by cases h)
    ·cases h
     exact zw (pK0 (o14 (zW (ng h7) 7 (zck 38 ob)))) (fun h=>by cases h)
  ·cases h
   exact zw (pK0 (zD (zn GStep.zl (l:=a1)) (zi h1 ob))) (fun h=>by cases h)
theorem zdM.ok {n:Nat} {t:Tab} (ht:TabOk t (run Tryz.prog own kp X n)):∀(p1:List GStep) (p2:List GStep) r,zdM t n p1 p2=some r→run Tryz.prog own kp X (n+1) 13 [(Sl 14 (GStep.ts p1)),(Sl 14 (GStep.ts p2))] []=some ((Bo r),[]):=by
 intro p1 p2 r h
 obtain⟨a1,rfl⟩:∃z_,z_=p1:=⟨_,rfl⟩
 obtain⟨a2,rfl⟩:∃z_,z_=p2:=⟨_,rfl⟩
 rw[zdM]at h
 rcases fk h with ⟨h1,h⟩ | ⟨h1,h⟩
 ·cases h
  exact zk Tryz.func13 (zD (zn GStep.zl (l:=a1)) (zD (zn GStep.zl (l:=a2)) (zi h1 ob))) (by kernel_rfl)
 ·obtain⟨a3 | ⟨a4,a5,a6,a7⟩,h2,h⟩:=sm h
  ·cases h
   exact zk Tryz.func13 (zD (zn GStep.zl (l:=a1)) (zD (zn GStep.zl (l:=a2)) (zi h1 (zaS (lk (sub [1,1,0,1,0] (zq Tryz.f13)) (by kernel_rfl) (zdR.okL ht n n _ _ _ _ h2)) ob)))) (by kernel_rfl)
  ·cases h
   exact zk Tryz.func13 (zD (zn GStep.zl (l:=a1)) (zD (zn GStep.zl (l:=a2)) (zi h1 (zaS (lk (sub [1,1,0,1,0] (zq Tryz.f13)) (by kernel_rfl) (zdR.okL ht n n _ _ _ _ h2)) ob)))) (by kernel_rfl)
theorem zei.ok {n:Nat} {t:Tab} (ht:TabOk t (run Tryz.prog own kp X n)):∀(p1:GProg) r,zei t n p1=some r→run Tryz.prog own kp X (n+1) 16 [(.t (GProg.t p1))] []=some ((I6 r),[]):=by
 intro p1 r h
 obtain⟨a1⟩:=p1
 rw[zei]at h
 obtain⟨⟨a2,a3⟩,h1,h⟩:=sm h
 cases h
 exact zk Tryz.func16 (zN (ht.zd9 _ _ h1) ob) (by kernel_rfl)
theorem zeO.ok {n:Nat} {t:Tab} (ht:TabOk t (run Tryz.prog own kp X n)):∀(p1:GProg) (p2:GProg) r,zeO t n p1 p2=some r→run Tryz.prog own kp X (n+1) 21 [(.t (GProg.t p1)),(.t (GProg.t p2))] []=some ((Bo r),[]):=by
 intro p1 p2 r h
 obtain⟨a1⟩:=p1
 obtain⟨a2⟩:=p2
 rw[zeO]at h
 obtain⟨a3,rfl⟩:∃z_,z_=r:=⟨_,rfl⟩
 have h1:=h
 exact zk Tryz.func21 (zN (ht.zaz _ _ _ h1) ob) (by kernel_rfl)
theorem zbr.okL (ht:TabOk t call) (n:Nat):∀(k:Nat) (a1:List GStep) (a2 a3 a4 a5:Int) (a6:List ByteArray) (a7:List Int) (a8 a9:Int) (a10:ByteArray) (a11 a12:List zh) (a13:Int) (a14:List zh) (a15:List GPred) (a16:List (List GStep)) (a17:List GBy) (a18:List ByteArray) (r:_),zbr t n k a1 a2 a3 a4 a5 a6 a7 a8 a9 a10 a11 a12 a13 a14 a15 a16 a17 a18=some r→loopN (exec (env Tryz.prog 35 Tryz.f35 call) n (sub [1,1,0,1,0,0,1,0,0,1,1,1,1,1,1,1,0,1,0,0] (zq Tryz.f35))) k (mkSt 129 129 [(0,(Sl 14 (GStep.ts a1))),(1,(I6 a2)),(5,(I6 a3)),(6,(.ptr 6 0 [] 0)),(11,(I6 a4))] [(6,(.t (.st [(.v (.int .i64 a5)),(.sl false 1 (texts a6)),(.sl false 1 (zA a7)),(.st [(.v (.int .i64 a8)),(.v (.int .i64 a9)),(.v (.string a10)),(.sl false 5 (zh.ts a11)),(.sl false 5 (zh.ts a12))]),(.st [(.v (.int .i64 a13)),(.sl false 5 (zh.ts a14)),(.sl false 3 (GPred.ts a15))]),(.sl false 1 (zo a16)),(.sl false 4 (GBy.ts a17)),(.sl false 1 (texts a18))])))])=some (zbr.to r)
 | 0,a1,a2,a3,a4,a5,a6,a7,a8,a9,a10,a11,a12,a13,a14,a15,a16,a17,a18,r,h=>by rw[zbr]at h;cases h
 | k+1,a1,a2,a3,a4,a5,a6,a7,a8,a9,a10,a11,a12,a13,a14,a15,a16,a17,a18,r,h=>by
  rw[zbr]at h
  rcases fk h with ⟨h1,h⟩ | ⟨h1,h⟩
  ·obtain⟨h2,h⟩:=ck h
   obtain⟨a19,h3,h⟩:=sm h
   obtain⟨a20,h4,h⟩:=sm h
   rcases fk h with ⟨h5,h⟩ | ⟨h5,h⟩
   ·exact zF (pK0 (zD (zn zx (l:=a16)) (zi h1 (zae h2 (zab (zu zx h3) (zN (ht.zaT _ _ _ h4) (zi (ng h5) ob))))))) (zbr.okL ht n k _ _ _ _ _ _ _ _ _ _ _ _ _ _ _ _ _ _ _ h)
   ·cases h
    exact zw (pK0 (zD (zn zx (l:=a16)) (zi h1 (zae h2 (zab (zu zx h3) (zN (ht.zaT _ _ _ h4) (zi (ng h5) ob))))))) (fun h=>by cases h)
  ·cases h
   exact zw (pK0 (zD (zn zx (l:=a16)) (zi h1 ob))) (fun h=>by cases h)
theorem zbI.okL (ht:TabOk t call) (n:Nat):∀(k:Nat) (a1:List GStep) (a2 a3 a4 a5:Int) (a6:List ByteArray) (a7:List Int) (a8 a9:Int) (a10:ByteArray) (a11 a12:List zh) (a13:Int) (a14:List zh) (a15:List GPred) (a16:List (List GStep)) (a17:List GBy) (a18:List ByteArray) (r:_),zbI t n k a1 a2 a3 a4 a5 a6 a7 a8 a9 a10 a11 a12 a13 a14 a15 a16 a17 a18=some r→loopN (exec (env Tryz.prog 35 Tryz.f35 call) n (sub [1,1,0,1,0,0,1,0,0,1,1,1,1,1,1,1,1,1,0,0] (zq Tryz.f35))) k (mkSt 129 129 [(0,(Sl 14 (GStep.ts a1))),(1,(I6 a2)),(5,(I6 a3)),(6,(.ptr 6 0 [] 0)),(12,(I6 a4))] [(6,(.t (.st [(.v (.int .i64 a5)),(.sl false 1 (texts a6)),(.sl false 1 (zA a7)),(.st [(.v (.int .i64 a8)),(.v (.int .i64 a9)),(.v (.string a10)),(.sl false 5 (zh.ts a11)),(.sl false 5 (zh.ts a12))]),(.st [(.v (.int .i64 a13)),(.sl false 5 (zh.ts a14)),(.sl false 3 (GPred.ts a15))]),(.sl false 1 (zo a16)),(.sl false 4 (GBy.ts a17)),(.sl false 1 (texts a18))])))])=some (zbI.to r)
 | 0,a1,a2,a3,a4,a5,a6,a7,a8,a9,a10,a11,a12,a13,a14,a15,a16,a17,a18,r,h=>by rw[zbI]at h;cases h
 | k+1,a1,a2,a3,a4,a5,a6,a7,a8,a9,a10,a11,a12,a13,a14,a15,a16,a17,a18,r,h=>by
  rw[zbI]at h
  rcases fk h with ⟨h1,h⟩ | ⟨h1,h⟩
  ·obtain⟨h2,h⟩:=ck h
   obtain⟨⟨a19,a20,a21,a22⟩,h3,h⟩:=sm h
   obtain⟨a23,h4,h⟩:=sm h
   obtain⟨a24,h5,h⟩:=sm h
   rcases fk h with ⟨h6,h⟩ | ⟨h6,h⟩
   ·exact zF (pK0 (zD (zn GBy.zl (l:=a17)) (zi h1 (zae h2 (zab (zu GBy.zl h3) (zN (ht.zaU _ _ h4) (zN (ht.zeb _ _ _ _ h5) (zi (ng h6) ob)))))))) (zbI.okL ht n k _ _ _ _ _ _ _ _ _ _ _ _ _ _ _ _ _ _ _ h)
   ·cases h
    exact zw (pK0 (zD (zn GBy.zl (l:=a17)) (zi h1 (zae h2 (zab (zu GBy.zl h3) (zN (ht.zaU _ _ h4) (zN (ht.zeb _ _ _ _ h5) (zi (ng h6) ob)))))))) (fun h=>by cases h)
  ·cases h
   exact zw (pK0 (zD (zn GBy.zl (l:=a17)) (zi h1 ob))) (fun h=>by cases h)
theorem zd4.ok (ht:TabOk t call) (n:Nat) (a1:List GStep) (a2 a3 a4:Int) (a5:List ByteArray) (a6:List Int) (a7 a8:Int) (a9:ByteArray) (a10 a11:List zh) (a12:Int) (a13:List zh) (a14:List GPred) (a15:List (List GStep)) (a16:List GBy) (a17:List ByteArray) (r:_) (h:zd4 t n a1 a2 a3 a4 a5 a6 a7 a8 a9 a10 a11 a12 a13 a14 a15 a16 a17=some r):exec (env Tryz.prog 35 Tryz.f35 call) n (sub [1,1,0,1,0,0,1,0,0,1,1,1,1,1,1,1,1] (zq Tryz.f35)) (mkSt 129 129 [(0,(Sl 14 (GStep.ts a1))),(1,(I6 a2)),(5,(I6 a3)),(6,(.ptr 6 0 [] 0))] [(6,(.t (.st [(.v (.int .i64 a4)),(.sl false 1 (texts a5)),(.sl false 1 (zA a6)),(.st [(.v (.int .i64 a7)),(.v (.int .i64 a8)),(.v (.string a9)),(.sl false 5 (zh.ts a10)),(.sl false 5 (zh.ts a11))]),(.st [(.v (.int .i64 a12)),(.sl false 5 (zh.ts a13)),(.sl false 3 (GPred.ts a14))]),(.sl false 1 (zo a15)),(.sl false 4 (GBy.ts a16)),(.sl false 1 (texts a17))])))])=some (zd4.to r):=by
 rw[zd4]at h
 obtain⟨a18 | ⟨a19,a20,a21,a22,a23,a24,a25,a26,a27,a28,a29,a30,a31,a32,a33,a34,a35,a36,a37⟩,h1,h⟩:=sm h
 ·cases h
  exact pK0 (zaS (lk (sub [1,1,0,1,0,0,1,0,0,1,1,1,1,1,1,1,1,1,0] (zq Tryz.f35)) (by kernel_rfl) (zbI.okL ht n n _ _ _ _ _ _ _ _ _ _ _ _ _ _ _ _ _ _ _ h1)) ob)
 ·cases h
  exact pK0 (zaS (lk (sub [1,1,0,1,0,0,1,0,0,1,1,1,1,1,1,1,1,1,0] (zq Tryz.f35)) (by kernel_rfl) (zbI.okL ht n n _ _ _ _ _ _ _ _ _ _ _ _ _ _ _ _ _ _ _ h1)) ob)
theorem zaK.ok (ht:TabOk t call) (n:Nat) (a1:List GStep) (a2 a3 a4:Int) (a5:List ByteArray) (a6:List Int) (a7 a8:Int) (a9:ByteArray) (a10 a11:List zh) (a12:Int) (a13:List zh) (a14:List GPred) (a15:List (List GStep)) (a16:List GBy) (a17:List ByteArray) (r:_) (h:zaK t n a1 a2 a3 a4 a5 a6 a7 a8 a9 a10 a11 a12 a13 a14 a15 a16 a17=some r):exec (env Tryz.prog 35 Tryz.f35 call) n (sub [1,1,0,1,0,0,1,0,0,1,1,1,1,1,1,1] (zq Tryz.f35)) (mkSt 129 129 [(0,(Sl 14 (GStep.ts a1))),(1,(I6 a2)),(5,(I6 a3)),(6,(.ptr 6 0 [] 0))] [(6,(.t (.st [(.v (.int .i64 a4)),(.sl false 1 (texts a5)),(.sl false 1 (zA a6)),(.st [(.v (.int .i64 a7)),(.v (.int .i64 a8)),(.v (.string a9)),(.sl false 5 (zh.ts a10)),(.sl false 5 (zh.ts a11))]),(.st [(.v (.int .i64 a12)),(.sl false 5 (zh.ts a13)),(.sl false 3 (GPred.ts a14))]),(.sl false 1 (zo a15)),(.sl false 4 (GBy.ts a16)),(.sl false 1 (texts a17))])))])=some (zaK.to r):=by
 rw[zaK]at h
 obtain⟨a18 | ⟨a19,a20,a21,a22,a23,a24,a25,a26,a27,a28,a29,a30,a31,a32,a33,a34,a35,a36,a37⟩,h1,h⟩:=sm h
 ·cases h
  exact pK0 (zaS (lk (sub [1,1,0,1,0,0,1,0,0,1,1,1,1,1,1,1,0,1,0] (zq Tryz.f35)) (by kernel_rfl) (zbr.okL ht n n _ _ _ _ _ _ _ _ _ _ _ _ _ _ _ _ _ _ _ h1)) ob)
 ·have h2:=h
  rcases r with a38 | ⟨a39,a40,a41⟩
  ·exact pK0 (zaS (lk (sub [1,1,0,1,0,0,1,0,0,1,1,1,1,1,1,1,0,1,0] (zq Tryz.f35)) (by kernel_rfl) (zbr.okL ht n n _ _ _ _ _ _ _ _ _ _ _ _ _ _ _ _ _ _ _ h1)) (zI (zd4.ok ht n _ _ _ _ _ _ _ _ _ _ _ _ _ _ _ _ _ _ h2) ob))
  ·exact pK0 (zaS (lk (sub [1,1,0,1,0,0,1,0,0,1,1,1,1,1,1,1,0,1,0] (zq Tryz.f35)) (by kernel_rfl) (zbr.okL ht n n _ _ _ _ _ _ _ _ _ _ _ _ _ _ _ _ _ _ _ h1)) (zI (zd4.ok ht n _ _ _ _ _ _ _ _ _ _ _ _ _ _ _ _ _ _ h2) ob))
theorem zcC.ok (ht:TabOk t call) (n:Nat) (a1:List GStep) (a2 a3 a4 a5:Int) (a6 a7:Bool) (a8:Int) (a9:List ByteArray) (a10:List Int) (a11 a12:Int) (a13:ByteArray) (a14 a15:List zh) (a16:Int) (a17:List zh) (a18:List GPred) (a19:List (List GStep)) (a20:List GBy) (a21:List ByteArray) (r:_) (h:zcC t n a1 a2 a3 a4 a5 a6 a7 a8 a9 a10 a11 a12 a13 a14 a15 a16 a17 a18 a19 a20 a21=some r):exec (env Tryz.prog 35 Tryz.f35 call) n (sub [1,1,0,1,0,0,1,0,0,1,1,1,1,1,1] (zq Tryz.f35)) (mkSt 129 129 [(0,(Sl 14 (GStep.ts a1))),(1,(I6 a2)),(5,(I6 a3)),(6,(.ptr 6 0 [] 0)),(7,(I6 a4)),(8,(I6 a5)),(9,(Bo a6)),(10,(Bo a7))] [(6,(.t (.st [(.v (.int .i64 a8)),(.sl false 1 (texts a9)),(.sl false 1 (zA a10)),(.st [(.v (.int .i64 a11)),(.v (.int .i64 a12)),(.v (.string a13)),(.sl false 5 (zh.ts a14)),(.sl false 5 (zh.ts a15))]),(.st [(.v (.int .i64 a16)),(.sl false 5 (zh.ts a17)),(.sl false 3 (GPred.ts a18))]),(.sl false 1 (zo a19)),(.sl false 4 (GBy.ts a20)),(.sl false 1 (texts a21))])))])=some (zcC.to r):=by
 rw[zcC]at h
 rcases fk h with ⟨h1,h⟩ | ⟨h1,h⟩
 ·have o3 {os} (x:Obls (env Tryz.prog 35 Tryz.f35 call) n os):=zy h1 x
  rcases fk h with ⟨h2,h⟩ | ⟨h2,h⟩
  ·cases h
   exact pK0 (o3 (zW h2 5 (zck 10 ob)))
  ·have o16 {os} (x:Obls (env Tryz.prog 35 Tryz.f35 call) n os):=o3 (zy h2 (zW (ng h1) 5 (zi h2 (zi (ng h1) (zi h2 (zX (rfl:false=false) x))))))
   rcases fk h with ⟨h3,h⟩ | ⟨h3,h⟩
   ·have o21 {os} (x:Obls (env Tryz.prog 35 Tryz.f35 call) n os):=o16 (zX h3 (zi (rfl:false=false) (zi h3 (zi (rfl:false=false) x))))
    rcases fk h with ⟨h4,h⟩ | ⟨h4,h⟩
    ·cases h
     exact pK0 (o21 (zW h4 5 (zck 1 ob)))
    ·have h5:=h
     have o33 {os} (x:Obls (env Tryz.prog 35 Tryz.f35 call) n os):=o21 (zy h4 (zW (ng h3) 5 (zi h4 (zi (ng h3) (zi h4 (zi (rfl:false=false) x))))))
     rcases r with a22 | ⟨a23,a24,a25⟩
     ·exact pK0 (o33 (zI (zaK.ok ht n _ _ _ _ _ _ _ _ _ _ _ _ _ _ _ _ _ _ h5) ob))
     ·exact pK0 (o33 (zI (zaK.ok ht n _ _ _ _ _ _ _ _ _ _ _ _ _ _ _ _ _ _ h5) ob))
   ·obtain⟨a26,h6,h⟩:=sm h
    have o33 {os} (x:Obls (env Tryz.prog 35 Tryz.f35 call) n os):=o16 (zX h3 (zi (rfl:false=false) (zi h3 (zah (rfl:false=false) (zah (ng h3) (zN (ht.zb5 _ _ _ h6) (zi (ng h3) (zi (rfl:false=false) (zi (ng h3) (zi (rfl:false=false) x))))))))))
    rcases fk h with ⟨h7,h⟩ | ⟨h7,h⟩
    ·have h8:=h
     rcases r with a27 | ⟨a28,a29,a30⟩
     ·exact pK0 (o33 (zi (ng h7) (zI (zaK.ok ht n _ _ _ _ _ _ _ _ _ _ _ _ _ _ _ _ _ _ h8) ob)))
     ·exact pK0 (o33 (zi (ng h7) (zI (zaK.ok ht n _ _ _ _ _ _ _ _ _ _ _ _ _ _ _ _ _ _ h8) ob)))
    ·cases h
     exact pK0 (o33 (zi (ng h7) ob))
 ·obtain⟨a31,h9,h⟩:=sm h
  have o15 {os} (x:Obls (env Tryz.prog 35 Tryz.f35 call) n os):=zy h1 (zy (rfl:false=false) (zah (ng h1) (zN (ht.zcD _ _ _ h9) (zi (ng h1) (zi (rfl:false=false) (zi (ng h1) (zi (rfl:false=false) x)))))))
  rcases fk h with ⟨h10,h⟩ | ⟨h10,h⟩
  ·have o17 {os} (x:Obls (env Tryz.prog 35 Tryz.f35 call) n os):=o15 (zX (ng h10) x)
   rcases fk h with ⟨h11,h⟩ | ⟨h11,h⟩
   ·rcases fk h with ⟨h12,h⟩ | ⟨h12,h⟩
    ·cases h
     exact pK0 (o17 (zX h11 (zi (ng h10) (zi h11 (zi (ng h10) (zW h12 5 (zck 1 ob)))))))
    ·have h13:=h
     have o34 {os} (x:Obls (env Tryz.prog 35 Tryz.f35 call) n os):=o17 (zX h11 (zi (ng h10) (zi h11 (zi (ng h10) (zy h12 (zW (ng h11) 5 (zi h12 (zi (ng h11) (zi h12 (zi (rfl:false=false) x))))))))))
     rcases r with a32 | ⟨a33,a34,a35⟩
     ·exact pK0 (o34 (zI (zaK.ok ht n _ _ _ _ _ _ _ _ _ _ _ _ _ _ _ _ _ _ h13) ob))
     ·exact pK0 (o34 (zI (zaK.ok ht n _ _ _ _ _ _ _ _ _ _ _ _ _ _ _ _ _ _ h13) ob))
   ·obtain⟨a36,h14,h⟩:=sm h
    have o34 {os} (x:Obls (env Tryz.prog 35 Tryz.f35 call) n os):=o17 (zX h11 (zi (ng h10) (zi h11 (zi (ng h10) (zy (rfl:false=false) (zah (ng h11) (zN (ht.zb5 _ _ _ h14) (zi (ng h11) (zi (rfl:false=false) (zi (ng h11) (zi (rfl:false=false) x)))))))))))
    rcases fk h with ⟨h15,h⟩ | ⟨h15,h⟩
    ·have h16:=h
     rcases r with a37 | ⟨a38,a39,a40⟩
     ·exact pK0 (o34 (zi (ng h15) (zI (zaK.ok ht n _ _ _ _ _ _ _ _ _ _ _ _ _ _ _ _ _ _ h16) ob)))
     ·exact pK0 (o34 (zi (ng h15) (zI (zaK.ok ht n _ _ _ _ _ _ _ _ _ _ _ _ _ _ _ _ _ _ h16) ob)))
    ·cases h
     exact pK0 (o34 (zi (ng h15) ob))
  ·cases h
   exact pK0 (o15 (zah (ng h10) (zck 6 ob)))
theorem zbs.ok (ht:TabOk t call) (n:Nat) (a1:List GStep) (a2 a3 a4:Int) (a5:List ByteArray) (a6:List Int) (a7 a8:Int) (a9:ByteArray) (a10 a11:List zh) (a12:Int) (a13:List zh) (a14:List GPred) (a15:List (List GStep)) (a16:List GBy) (a17:List ByteArray) (r:_) (h:zbs t n a1 a2 a3 a4 a5 a6 a7 a8 a9 a10 a11 a12 a13 a14 a15 a16 a17=some r):exec (env Tryz.prog 35 Tryz.f35 call) n (sub [1,1,0,1,0,0,1,0,0,1,1] (zq Tryz.f35)) (mkSt 129 129 [(0,(Sl 14 (GStep.ts a1))),(1,(I6 a2)),(5,(I6 a3)),(6,(.ptr 6 0 [] 0))] [(6,(.t (.st [(.v (.int .i64 a4)),(.sl false 1 (texts a5)),(.sl false 1 (zA a6)),(.st [(.v (.int .i64 a7)),(.v (.int .i64 a8)),(.v (.string a9)),(.sl false 5 (zh.ts a10)),(.sl false 5 (zh.ts a11))]),(.st [(.v (.int .i64 a12)),(.sl false 5 (zh.ts a13)),(.sl false 3 (GPred.ts a14))]),(.sl false 1 (zo a15)),(.sl false 4 (GBy.ts a16)),(.sl false 1 (texts a17))])))])=some (zbs.to r):=by
 rw[zbs]at h
 obtain⟨a18,h1,h⟩:=sm h
 obtain⟨a19,h2,h⟩:=sm h
 obtain⟨a20,h3,h⟩:=sm h
 have o4 {os} (x:Obls (env Tryz.prog 35 Tryz.f35 call) n os):=zN (ht.zce _ _ h1) (zN (ht.zdB _ _ h2) (zN (ht.zaU _ _ h3) (zN (ht.zaU _ _ h3) x)))
 rcases fk h with ⟨h4,h⟩ | ⟨h4,h⟩
 ·have h5:=h
  rcases r with a21 | ⟨a22,a23,a24⟩
  ·exact pK0 (o4 (zW h4 5 (zI (zcC.ok ht n _ _ _ _ _ _ _ _ _ _ _ _ _ _ _ _ _ _ _ _ _ _ h5) ob)))
  ·exact pK0 (o4 (zW h4 5 (zI (zcC.ok ht n _ _ _ _ _ _ _ _ _ _ _ _ _ _ _ _ _ _ _ _ _ _ h5) ob)))
 ·have h6:=h
  rcases r with a25 | ⟨a26,a27,a28⟩
  ·exact pK0 (o4 (zy h4 (zN (ht.zaU _ _ h3) (zX h4 (zI (zcC.ok ht n _ _ _ _ _ _ _ _ _ _ _ _ _ _ _ _ _ _ _ _ _ _ h6) ob)))))
  ·exact pK0 (o4 (zy h4 (zN (ht.zaU _ _ h3) (zX h4 (zI (zcC.ok ht n _ _ _ _ _ _ _ _ _ _ _ _ _ _ _ _ _ _ _ _ _ _ h6) ob)))))
theorem zbJ.okL (ht:TabOk t call) (n:Nat):∀(k:Nat) (a1:List GStep) (a2 a3:Int) (r:_),zbJ t n k a1 a2 a3=some r→loopN (exec (env Tryz.prog 35 Tryz.f35 call) n (sub [1,1,0,1,0,0] (zq Tryz.f35))) k (mkSt 129 129 [(0,(Sl 14 (GStep.ts a1))),(1,(I6 a2)),(5,(I6 a3))] [])=some (zbJ.to r)
 | 0,a1,a2,a3,r,h=>by rw[zbJ]at h;cases h
 | k+1,a1,a2,a3,r,h=>by
  rw[zbJ]at h
  rcases fk h with ⟨h1,h⟩ | ⟨h1,h⟩
  ·obtain⟨h2,h⟩:=ck h
   obtain⟨⟨a4,a5,a6,⟨a7,a8,a9,a10,a11⟩,⟨a12,a13,a14⟩,a15,a16,a17⟩,h3,h⟩:=sm h
   obtain⟨a18,h4,h⟩:=sm h
   have o5 {os} (x:Obls (env Tryz.prog 35 Tryz.f35 call) n os):=zD (zn GStep.zl (l:=a1)) (zi h1 (zae h2 (zab (zu GStep.zl h3) (zN (ht.zai _ _ h4) x))))
   rcases fk h with ⟨h5,h⟩ | ⟨h5,h⟩
   ·obtain⟨a19,h6,h⟩:=sm h
    have o11 {os} (x:Obls (env Tryz.prog 35 Tryz.f35 call) n os):=o5 (zy (ng h5) (zN (ht.zbB _ _ h6) (zX (ng h5) x)))
    rcases fk h with ⟨h7,h⟩ | ⟨h7,h⟩
    ·obtain⟨a20,h8,h⟩:=sm h
     have o17 {os} (x:Obls (env Tryz.prog 35 Tryz.f35 call) n os):=o11 (zy (ng h7) (zN (ht.zbB _ _ h8) (zX (ng h7) x)))
     rcases fk h with ⟨h9,h⟩ | ⟨h9,h⟩
     ·obtain⟨a21 | ⟨a22,a23,a24⟩,h10,h⟩:=sm h
      ·cases h
       exact zw (pK0 (o17 (zi (ng h9) (zI (zbs.ok ht n _ _ _ _ _ _ _ _ _ _ _ _ _ _ _ _ _ _ h10) ob)))) (fun h=>by cases h)
      ·exact zF (pK0 (o17 (zi (ng h9) (zI (zbs.ok ht n _ _ _ _ _ _ _ _ _ _ _ _ _ _ _ _ _ _ h10) ob)))) (zbJ.okL ht n k _ _ _ _ h)
     ·cases h
      exact zw (pK0 (o17 (zi (ng h9) ob))) (fun h=>by cases h)
    ·cases h
     exact zw (pK0 (o11 (zW (ng h7) 5 (zck 1 ob)))) (fun h=>by cases h)
   ·cases h
    exact zw (pK0 (o5 (zW (ng h5) 5 (zck 6 ob)))) (fun h=>by cases h)
  ·cases h
   exact zw (pK0 (zD (zn GStep.zl (l:=a1)) (zi h1 ob))) (fun h=>by cases h)
theorem zaT.ok {n:Nat} {t:Tab} (ht:TabOk t (run Tryz.prog own kp X n)):∀(p1:List GStep) (p2:Int) r,zaT t n p1 p2=some r→run Tryz.prog own kp X (n+1) 35 [(Sl 14 (GStep.ts p1)),(I6 p2)] []=some ((Bo r),[]):=by
 intro p1 p2 r h
 obtain⟨a1,rfl⟩:∃z_,z_=p1:=⟨_,rfl⟩
 obtain⟨a2,rfl⟩:∃z_,z_=p2:=⟨_,rfl⟩
 rw[zaT]at h
 rcases fk h with ⟨h1,h⟩ | ⟨h1,h⟩
 ·cases h
  exact zk Tryz.func35 (zi h1 ob) (by kernel_rfl)
 ·obtain⟨a3 | ⟨a4,a5,a6,a7⟩,h2,h⟩:=sm h
  ·cases h
   exact zk Tryz.func35 (zi h1 (zaS (lk (sub [1,1,0,1,0] (zq Tryz.f35)) (by kernel_rfl) (zbJ.okL ht n n _ _ _ _ h2)) ob)) (by kernel_rfl)
  ·cases h
   exact zk Tryz.func35 (zi h1 (zaS (lk (sub [1,1,0,1,0] (zq Tryz.f35)) (by kernel_rfl) (zbJ.okL ht n n _ _ _ _ h2)) ob)) (by kernel_rfl)
theorem zc5.ok (ht:TabOk t call) (n:Nat) (a1:List GStep) (a2 a3 a4 a5:Int) (a6:List (List GStep)) (a7:Int) (r:_) (h:zc5 t n a1 a2 a3 a4 a5 a6 a7=some r):exec (env Tryz.prog 36 Tryz.f36 call) n (sub [1,1,0,1,0,0,1,0,0,1,1,1,0,0,1] (zq Tryz.f36)) (mkSt 57 57 [(0,(Sl 14 (GStep.ts a1))),(1,(I6 a2)),(2,(I6 a3)),(7,(I6 a4)),(8,(I6 a5)),(9,(Sl 1 (zo a6))),(10,(I6 a7))] [])=some (zc5.to r):=by
 rw[zc5]at h
 obtain⟨h1,h⟩:=ck h
 obtain⟨a8,h2,h⟩:=sm h
 obtain⟨a9,h3,h⟩:=sm h
 cases h
 exact pK0 (zae h1 (zab (zu zx h2) (zN (ht.zb9 _ _ _ _ h3) ob)))
theorem zbt.okL (ht:TabOk t call) (n:Nat):∀(k:Nat) (a1:List GStep) (a2 a3 a4 a5:Int) (a6:List (List GStep)) (a7:Int) (r:_),zbt t n k a1 a2 a3 a4 a5 a6 a7=some r→loopN (exec (env Tryz.prog 36 Tryz.f36 call) n (sub [1,1,0,1,0,0,1,0,0,1,1,1,0,0] (zq Tryz.f36))) k (mkSt 57 57 [(0,(Sl 14 (GStep.ts a1))),(1,(I6 a2)),(2,(I6 a3)),(7,(I6 a4)),(8,(I6 a5)),(9,(Sl 1 (zo a6))),(10,(I6 a7))] [])=some (zbt.to r)
 | 0,a1,a2,a3,a4,a5,a6,a7,r,h=>by rw[zbt]at h;cases h
 | k+1,a1,a2,a3,a4,a5,a6,a7,r,h=>by
  rw[zbt]at h
  rcases fk h with ⟨h1,h⟩ | ⟨h1,h⟩
  ·rcases fk h with ⟨h2,h⟩ | ⟨h2,h⟩
   ·rcases fk h with ⟨h3,h⟩ | ⟨h3,h⟩
    ·obtain⟨⟨a8,a9,a10,a11,a12,a13,a14⟩,h4,h⟩:=sm h
     exact zF (pK0 (zD (zn zx (l:=a6)) (zy h1 (zah h2 (zi h3 (zI (zc5.ok ht n _ _ _ _ _ _ _ _ h4) ob)))))) (zbt.okL ht n k _ _ _ _ _ _ _ _ h)
    ·cases h
     exact zw (pK0 (zD (zn zx (l:=a6)) (zy h1 (zah h2 (zi h3 ob))))) (fun h=>by cases h)
   ·cases h
    exact zw (pK0 (zD (zn zx (l:=a6)) (zy h1 (zah h2 (zi (rfl:false=false) ob))))) (fun h=>by cases h)
  ·cases h
   exact zw (pK0 (zD (zn zx (l:=a6)) (zy h1 (zW (rfl:false=false) 5 ob)))) (fun h=>by cases h)
theorem zc6.ok (ht:TabOk t call) (n:Nat) (a1:List GStep) (a2 a3 a4 a5:Int) (r:_) (h:zc6 t n a1 a2 a3 a4 a5=some r):exec (env Tryz.prog 36 Tryz.f36 call) n (sub [1,1,0,1,0,0,1] (zq Tryz.f36)) (mkSt 57 57 [(0,(Sl 14 (GStep.ts a1))),(1,(I6 a2)),(2,(I6 a3)),(7,(I6 a4)),(8,(I6 a5))] [])=some (zc6.to r):=by
 rw[zc6]at h
 obtain⟨h1,h⟩:=ck h
 obtain⟨⟨a6,a7,a8,⟨a9,a10,a11,a12,a13⟩,⟨a14,a15,a16⟩,a17,a18,a19⟩,h2,h⟩:=sm h
 obtain⟨a20,h3,h⟩:=sm h
 obtain⟨⟨a21,a22,a23,a24,a25,a26,a27,a28⟩,h4,h⟩:=sm h
 cases h
 exact pK0 (zae h1 (zab (zu GStep.zl h2) (zN (ht.zb0 _ _ h3) (zaS (lk (sub [1,1,0,1,0,0,1,0,0,1,1,1,0] (zq Tryz.f36)) (by kernel_rfl) (zbt.okL ht n n _ _ _ _ _ _ _ _ h4)) ob))))
theorem zb8.okL (ht:TabOk t call) (n:Nat):∀(k:Nat) (a1:List GStep) (a2 a3 a4 a5:Int) (r:_),zb8 t n k a1 a2 a3 a4 a5=some r→loopN (exec (env Tryz.prog 36 Tryz.f36 call) n (sub [1,1,0,1,0,0] (zq Tryz.f36))) k (mkSt 57 57 [(0,(Sl 14 (GStep.ts a1))),(1,(I6 a2)),(2,(I6 a3)),(7,(I6 a4)),(8,(I6 a5))] [])=some (zb8.to r)
 | 0,a1,a2,a3,a4,a5,r,h=>by rw[zb8]at h;cases h
 | k+1,a1,a2,a3,a4,a5,r,h=>by
  rw[zb8]at h
  rcases fk h with ⟨h1,h⟩ | ⟨h1,h⟩
  ·rcases fk h with ⟨h2,h⟩ | ⟨h2,h⟩
   ·obtain⟨⟨a6,a7,a8,a9,a10⟩,h3,h⟩:=sm h
    exact zF (pK0 (zD (zn GStep.zl (l:=a1)) (zah h1 (zi h2 (zI (zc6.ok ht n _ _ _ _ _ _ h3) ob))))) (zb8.okL ht n k _ _ _ _ _ _ h)
   ·cases h
    exact zw (pK0 (zD (zn GStep.zl (l:=a1)) (zah h1 (zi h2 ob)))) (fun h=>by cases h)
  ·cases h
   exact zw (pK0 (zD (zn GStep.zl (l:=a1)) (zah h1 (zi (rfl:false=false) ob)))) (fun h=>by cases h)
theorem zb9.ok {n:Nat} {t:Tab} (ht:TabOk t (run Tryz.prog own kp X n)):∀(p1:List GStep) (p2:Int) (p3:Int) r,zb9 t n p1 p2 p3=some r→run Tryz.prog own kp X (n+1) 36 [(Sl 14 (GStep.ts p1)),(I6 p2),(I6 p3)] []=some ((I6 r),[]):=by
 intro p1 p2 p3 r h
 obtain⟨a1,rfl⟩:∃z_,z_=p1:=⟨_,rfl⟩
 obtain⟨a2,rfl⟩:∃z_,z_=p2:=⟨_,rfl⟩
 obtain⟨a3,rfl⟩:∃z_,z_=p3:=⟨_,rfl⟩
 rw[zb9]at h
 obtain⟨⟨a4,a5,a6,a7,a8,a9⟩,h1,h⟩:=sm h
 cases h
 exact zk Tryz.func36 (zaS (lk (sub [1,1,0,1,0] (zq Tryz.f36)) (by kernel_rfl) (zb8.okL ht n n _ _ _ _ _ _ h1)) ob) (by kernel_rfl)
theorem zcR.okL (ht:TabOk t call) (n:Nat):∀(k:Nat) (a1:List GStep) (a2 a3 a4:Int) (a5:List (List GStep)) (a6:Int) (r:_),zcR t n k a1 a2 a3 a4 a5 a6=some r→loopN (exec (env Tryz.prog 37 Tryz.f37 call) n (sub [1,1,0,1,0,0,1,0,0,1,1,0,0] (zq Tryz.f37))) k (mkSt 41 41 [(0,(Sl 14 (GStep.ts a1))),(1,(I6 a2)),(5,(I6 a3)),(6,(I6 a4)),(7,(Sl 1 (zo a5))),(8,(I6 a6))] [])=some (zcR.to r)
 | 0,a1,a2,a3,a4,a5,a6,r,h=>by rw[zcR]at h;cases h
 | k+1,a1,a2,a3,a4,a5,a6,r,h=>by
  rw[zcR]at h
  rcases fk h with ⟨h1,h⟩ | ⟨h1,h⟩
  ·obtain⟨h2,h⟩:=ck h
   obtain⟨a7,h3,h⟩:=sm h
   obtain⟨a8,h4,h⟩:=sm h
   exact zF (pK0 (zD (zn zx (l:=a5)) (zi h1 (zae h2 (zab (zu zx h3) (zN (ht.zdn _ _ _ h4) ob)))))) (zcR.okL ht n k _ _ _ _ _ _ _ h)
  ·cases h
   exact zw (pK0 (zD (zn zx (l:=a5)) (zi h1 ob))) (fun h=>by cases h)
theorem zdG.ok (ht:TabOk t call) (n:Nat) (a1:List GStep) (a2 a3 a4:Int) (r:_) (h:zdG t n a1 a2 a3 a4=some r):exec (env Tryz.prog 37 Tryz.f37 call) n (sub [1,1,0,1,0,0,1] (zq Tryz.f37)) (mkSt 41 41 [(0,(Sl 14 (GStep.ts a1))),(1,(I6 a2)),(5,(I6 a3)),(6,(I6 a4))] [])=some (zdG.to r):=by
 rw[zdG]at h
 obtain⟨h1,h⟩:=ck h
 obtain⟨⟨a5,a6,a7,⟨a8,a9,a10,a11,a12⟩,⟨a13,a14,a15⟩,a16,a17,a18⟩,h2,h⟩:=sm h
 obtain⟨a19,h3,h⟩:=sm h
 obtain⟨⟨a20,a21,a22,a23,a24,a25,a26⟩,h4,h⟩:=sm h
 cases h
 exact pK0 (zae h1 (zab (zu GStep.zl h2) (zN (ht.zb0 _ _ h3) (zaS (lk (sub [1,1,0,1,0,0,1,0,0,1,1,0] (zq Tryz.f37)) (by kernel_rfl) (zcR.okL ht n n _ _ _ _ _ _ _ h4)) ob))))
theorem zcS.okL (ht:TabOk t call) (n:Nat):∀(k:Nat) (a1:List GStep) (a2 a3 a4:Int) (r:_),zcS t n k a1 a2 a3 a4=some r→loopN (exec (env Tryz.prog 37 Tryz.f37 call) n (sub [1,1,0,1,0,0] (zq Tryz.f37))) k (mkSt 41 41 [(0,(Sl 14 (GStep.ts a1))),(1,(I6 a2)),(5,(I6 a3)),(6,(I6 a4))] [])=some (zcS.to r)
 | 0,a1,a2,a3,a4,r,h=>by rw[zcS]at h;cases h
 | k+1,a1,a2,a3,a4,r,h=>by
  rw[zcS]at h
  rcases fk h with ⟨h1,h⟩ | ⟨h1,h⟩
  ·rcases fk h with ⟨h2,h⟩ | ⟨h2,h⟩
   ·obtain⟨⟨a5,a6,a7,a8⟩,h3,h⟩:=sm h
    exact zF (pK0 (zD (zn GStep.zl (l:=a1)) (zy h1 (zi h2 (zI (zdG.ok ht n _ _ _ _ _ h3) ob))))) (zcS.okL ht n k _ _ _ _ _ h)
   ·cases h
    exact zw (pK0 (zD (zn GStep.zl (l:=a1)) (zy h1 (zi h2 ob)))) (fun h=>by cases h)
  ·cases h
   exact zw (pK0 (zD (zn GStep.zl (l:=a1)) (zy h1 (zi (rfl:false=false) ob)))) (fun h=>by cases h)
theorem zdn.ok {n:Nat} {t:Tab} (ht:TabOk t (run Tryz.prog own kp X n)):∀(p1:List GStep) (p2:Int) r,zdn t n p1 p2=some r→run Tryz.prog own kp X (n+1) 37 [(Sl 14 (GStep.ts p1)),(I6 p2)] []=some ((I6 r),[]):=by
 intro p1 p2 r h
 obtain⟨a1,rfl⟩:∃z_,z_=p1:=⟨_,rfl⟩
 obtain⟨a2,rfl⟩:∃z_,z_=p2:=⟨_,rfl⟩
 rw[zdn]at h
 obtain⟨⟨a3,a4,a5,a6,a7⟩,h1,h⟩:=sm h
 cases h
 exact zk Tryz.func37 (zaS (lk (sub [1,1,0,1,0] (zq Tryz.f37)) (by kernel_rfl) (zcS.okL ht n n _ _ _ _ _ h1)) ob) (by kernel_rfl)
theorem zdo.ok {n:Nat} {t:Tab} (ht:TabOk t (run Tryz.prog own kp X n)):∀(p1:List GStep) r,zdo t n p1=some r→run Tryz.prog own kp X (n+1) 23 [(Sl 14 (GStep.ts p1))] []=some ((I6 r),[]):=by
 intro p1 r h
 obtain⟨a1,rfl⟩:∃z_,z_=p1:=⟨_,rfl⟩
 rw[zdo]at h
 obtain⟨a2,h1,h⟩:=sm h
 rcases fk h with ⟨h2,h⟩ | ⟨h2,h⟩
 ·cases h
  exact zk Tryz.func23 (zN (ht.zdN _ _ h1) (zah h2 (zck 1 ob))) (by kernel_rfl)
 ·obtain⟨a3,h3,h⟩:=sm h
  rcases fk h with ⟨h4,h⟩ | ⟨h4,h⟩
  ·cases h
   exact zk Tryz.func23 (zN (ht.zdN _ _ h1) (zX h2 (zN (ht.za9 _ _ _ h3) (zX h2 (zi (ng h4) ob))))) (by kernel_rfl)
  ·cases h
   exact zk Tryz.func23 (zN (ht.zdN _ _ h1) (zX h2 (zN (ht.za9 _ _ _ h3) (zX h2 (zi (ng h4) ob))))) (by kernel_rfl)
theorem zed.ok {n:Nat} {t:Tab} (ht:TabOk t (run Tryz.prog own kp X n)):∀(p1:List GStep) r,zed t n p1=some r→run Tryz.prog own kp X (n+1) 8 [(Sl 14 (GStep.ts p1))] []=some ((Sl 14 (GStep.ts r)),[]):=by
 intro p1 r h
 obtain⟨a1,rfl⟩:∃z_,z_=p1:=⟨_,rfl⟩
 rw[zed]at h
 obtain⟨a2,rfl⟩:∃z_,z_=r:=⟨_,rfl⟩
 have h1:=h
 exact zk Tryz.func8 (zN (ht.za6 _ _ _ h1) ob) (by kernel_rfl)
theorem za8.okL (ht:TabOk t call) (n:Nat):∀(k:Nat) (a1:Int) (a2:List GStep) (a3 a4:Int) (a5:List (List GStep)) (a6 a7:Int) (u8:GStep) (a22:Int) (a23:List ByteArray) (a24:List Int) (u12:zh) (u13:GPred) (a33:List Int) (a34:List GKey) (a35:List ByteArray) (u17:zV) (r:_),za8 t n k a1 a2 a3 a4 a5 a6 a7 u8 a22 a23 a24 u12 u13 a33 a34 a35 u17=some r→loopN (exec (env Tryz.prog 24 Tryz.f24 call) n (sub [1,1,1,0,1,0,0,1,1,0,0,1,1,0,1,0,0] (zq Tryz.f24))) k (mkSt 110 111 [(0,(.ptr 110 0 [] 0)),(5,(I6 a1)),(7,(.ptr 7 0 [] 0)),(8,(.ptr 8 0 [] 0)),(28,(Sl 14 (GStep.ts a2))),(29,(I6 a3)),(30,(I6 a4)),(48,(Sl 1 (zo a5))),(49,(I6 a6)),(50,(I6 a7))] [(7,(.t (GStep.t u8))),(8,(.t (.st [(.v (.int .i64 a22)),(.sl false 1 (texts a23)),(.sl false 1 (zA a24)),(zh.t u12),(GPred.t u13),(.xl 1 (zA a33)),(.xl 4 (GKey.ts a34)),(.sl false 1 (texts a35))]))),(110,(.t (zV.x u17)))])=some (za8.to r)
 | 0,a1,a2,a3,a4,a5,a6,a7,u8,a22,a23,a24,u12,u13,a33,a34,a35,u17,r,h=>by rw[za8]at h;cases h
 | k+1,a1,a2,a3,a4,a5,a6,a7,⟨a8,a9,a10,⟨a11,a12,a13,a14,a15⟩,⟨a16,a17,a18⟩,a19,a20,a21⟩,a22,a23,a24,⟨a25,a26,a27,a28,a29⟩,⟨a30,a31,a32⟩,a33,a34,a35,⟨a36⟩,r,h=>by
  rw[za8]at h
  rcases fk h with ⟨h1,h⟩ | ⟨h1,h⟩
  ·obtain⟨h2,h⟩:=ck h
   obtain⟨a37,h3,h⟩:=sm h
   obtain⟨⟨a38,⟨a39⟩⟩,h4,h⟩:=sm h
   obtain⟨h5,h⟩:=cl h
   exact zF (pK0 (zi h1 (zae h2 (zab (zu zx h3) (zN (ht.zaR _ _ _ h4) (zfm (zes zz h5) (zfx (zeS zz (a:=a33) (b:=([a38]:List Int))) ob))))))) (za8.okL ht n k _ _ _ _ _ _ _ _ _ _ _ _ _ _ _ _ _ _ h)
  ·cases h
   exact zw (pK0 (zi h1 ob)) (fun h=>by cases h)
theorem zbK.ok (ht:TabOk t call) (n:Nat) (a1:Int) (a2:List GStep) (a3 a4:Int) (a5:List GBy) (a6 a7 a8:Int) (a9:List ByteArray) (a10:List Int) (u11:zh) (u12:GPred) (a19:List Int) (a20:List GKey) (a21:List ByteArray) (u16:GKey) (u17:zV) (r:_) (h:zbK t n a1 a2 a3 a4 a5 a6 a7 a8 a9 a10 u11 u12 a19 a20 a21 u16 u17=some r):exec (env Tryz.prog 24 Tryz.f24 call) n (sub [1,1,1,0,1,0,0,1,1,0,0,1,1,1,0,1,0,0,1,1,0,0,1,1,1] (zq Tryz.f24)) (mkSt 110 111 [(0,(.ptr 110 0 [] 0)),(5,(I6 a1)),(8,(.ptr 8 0 [] 0)),(13,(.ptr 13 0 [] 0)),(28,(Sl 14 (GStep.ts a2))),(29,(I6 a3)),(30,(I6 a4)),(64,(Sl 4 (GBy.ts a5))),(65,(I6 a6)),(66,(I6 a7))] [(8,(.t (.st [(.v (.int .i64 a8)),(.sl false 1 (texts a9)),(.sl false 1 (zA a10)),(zh.t u11),(GPred.t u12),(.xl 1 (zA a19)),(.xl 4 (GKey.ts a20)),(.sl false 1 (texts a21))]))),(13,(.t (GKey.t u16))),(110,(.t (zV.x u17)))])=some (zbK.to r):=by
 obtain⟨a11,a12,a13,a14,a15⟩:=u11
 obtain⟨a16,a17,a18⟩:=u12
 obtain⟨a22,a23,a24,a25⟩:=u16
 obtain⟨a26⟩:=u17
 rw[zbK]at h
 obtain⟨h1,h⟩:=cl h
 cases h
 exact pK0 (zfm (zes GKey.zl h1) (zfx (zeS GKey.zl (a:=a20) (b:=([(GKey.mk a22 a23 a24 a25)]:List GKey))) ob))
theorem zaI.okL (ht:TabOk t call) (n:Nat):∀(k:Nat) (a1:Int) (a2:List GStep) (a3 a4:Int) (a5:List GBy) (a6 a7 a8:Int) (a9:List ByteArray) (a10:List Int) (u11:zh) (u12:GPred) (a19:List Int) (a20:List GKey) (a21:List ByteArray) (u16:zV) (r:_),zaI t n k a1 a2 a3 a4 a5 a6 a7 a8 a9 a10 u11 u12 a19 a20 a21 u16=some r→loopN (exec (env Tryz.prog 24 Tryz.f24 call) n (sub [1,1,1,0,1,0,0,1,1,0,0,1,1,1,0,1,0,0] (zq Tryz.f24))) k (mkSt 110 111 [(0,(.ptr 110 0 [] 0)),(5,(I6 a1)),(8,(.ptr 8 0 [] 0)),(28,(Sl 14 (GStep.ts a2))),(29,(I6 a3)),(30,(I6 a4)),(64,(Sl 4 (GBy.ts a5))),(65,(I6 a6)),(66,(I6 a7))] [(8,(.t (.st [(.v (.int .i64 a8)),(.sl false 1 (texts a9)),(.sl false 1 (zA a10)),(zh.t u11),(GPred.t u12),(.xl 1 (zA a19)),(.xl 4 (GKey.ts a20)),(.sl false 1 (texts a21))]))),(110,(.t (zV.x u16)))])=some (zaI.to r)
 | 0,a1,a2,a3,a4,a5,a6,a7,a8,a9,a10,u11,u12,a19,a20,a21,u16,r,h=>by rw[zaI]at h;cases h
 | k+1,a1,a2,a3,a4,a5,a6,a7,a8,a9,a10,⟨a11,a12,a13,a14,a15⟩,⟨a16,a17,a18⟩,a19,a20,a21,⟨a22⟩,r,h=>by
  rw[zaI]at h
  rcases fk h with ⟨h1,h⟩ | ⟨h1,h⟩
  ·obtain⟨h2,h⟩:=ck h
   obtain⟨⟨a23,a24,a25,a26⟩,h3,h⟩:=sm h
   rcases fk h with ⟨h4,h⟩ | ⟨h4,h⟩
   ·obtain⟨⟨a27,⟨a28⟩⟩,h5,h⟩:=sm h
    obtain⟨⟨a29,a30,a31,a32,a33,a34,a35,a36,a37,a38,⟨a39,a40,a41,a42,a43⟩,⟨a44,a45,a46⟩,a47,a48,a49,⟨a50⟩⟩,h6,h⟩:=sm h
    exact zF (pK0 (zi h1 (zae h2 (zab (zu GBy.zl h3) (zi h4 (zN (ht.zaR _ _ _ h5) (zI (zbK.ok ht n _ _ _ _ _ _ _ _ _ _ _ _ _ _ _ _ _ _ h6) ob))))))) (zaI.okL ht n k _ _ _ _ _ _ _ _ _ _ _ _ _ _ _ _ _ h)
   ·obtain⟨⟨a51,a52,a53,a54,a55,a56,a57,a58,a59,a60,⟨a61,a62,a63,a64,a65⟩,⟨a66,a67,a68⟩,a69,a70,a71,⟨a72⟩⟩,h7,h⟩:=sm h
    exact zF (pK0 (zi h1 (zae h2 (zab (zu GBy.zl h3) (zi h4 (zI (zbK.ok ht n _ _ _ _ _ _ _ _ _ _ _ _ _ _ _ _ _ _ h7) ob)))))) (zaI.okL ht n k _ _ _ _ _ _ _ _ _ _ _ _ _ _ _ _ _ h)
  ·cases h
   exact zw (pK0 (zi h1 ob)) (fun h=>by cases h)
theorem zcZ.ok (ht:TabOk t call) (n:Nat) (a1:Int) (a2:List GStep) (a3 a4:Int) (u5:GCode) (u6:zV) (r:_) (h:zcZ t n a1 a2 a3 a4 u5 u6=some r):exec (env Tryz.prog 24 Tryz.f24 call) n (sub [1,1,1,0,1,0,0,1,1,0,0,1,1,1,1] (zq Tryz.f24)) (mkSt 110 111 [(0,(.ptr 110 0 [] 0)),(5,(I6 a1)),(8,(.ptr 8 0 [] 0)),(28,(Sl 14 (GStep.ts a2))),(29,(I6 a3)),(30,(I6 a4))] [(8,(.t (GCode.t u5))),(110,(.t (zV.x u6)))])=some (zcZ.to r):=by
 obtain⟨a5,a6,a7,⟨a8,a9,a10,a11,a12⟩,⟨a13,a14,a15⟩,a16,a17,a18⟩:=u5
 obtain⟨a19⟩:=u6
 rw[zcZ]at h
 obtain⟨h1,h⟩:=ck h
 obtain⟨a20,h2,h⟩:=sm h
 obtain⟨h3,h⟩:=cl h
 cases h
 exact pK0 (zab (zir (fs:=[(.xl 1 (zbq a19))]) (i:=0) rfl (zhb _)) (zae h1 (zab (zu zbH h2) (zab (zir (fs:=[(.xl 1 (zbq a19))]) (i:=0) rfl (zoP 1 (zu zbH h2) (zhb _))) (zab (zir (fs:=[(.xl 1 (zbq a19))]) (i:=0) rfl (zoP 1 (zu zbH h2) (zhb _))) (zab (zoQ (fs:=[(.xl 1 (zbq a19))]) (i:=0) rfl (zpB 1 zbH h2 (zno _ .op))) (zfm (zes GCode.zl h3) (zfx (zeS GCode.zl (a:=a20) (b:=([(GCode.mk a5 a6 a7 (zh.mk a8 a9 a10 a11 a12) (GPred.mk a13 a14 a15) a16 a17 a18)]:List GCode))) (zab (zir (fs:=[(.xl 1 (List.set (zbq a19) ((a1:Int).toNat) .op))]) (i:=0) rfl (zhb _)) (zae h1 (zab (zlq (z:=.op) zbH h2) (zab (zir (fs:=[(.xl 1 (List.set (zbq a19) ((a1:Int).toNat) .op))]) (i:=0) rfl (zqr 1 zbH h2 (zhb _))) (zab (zoQ (fs:=[(.xl 1 (List.set (zbq a19) ((a1:Int).toNat) .op))]) (i:=0) rfl (zqs 1 zbH (a20++([(GCode.mk a5 a6 a7 (zh.mk a8 a9 a10 a11 a12) (GPred.mk a13 a14 a15) a16 a17 a18)]:List GCode)) h2 (zno _ (.xl 14 (GCode.ts (a20++([(GCode.mk a5 a6 a7 (zh.mk a8 a9 a10 a11 a12) (GPred.mk a13 a14 a15) a16 a17 a18)]:List GCode))))))) ob)))))))))))))
theorem zdA.ok (ht:TabOk t call) (n:Nat) (a1:Int) (a2:List GStep) (a3 a4:Int) (u5:GStep) (a19:Int) (a20:List ByteArray) (a21:List Int) (u9:zh) (u10:GPred) (a30:List Int) (a31:List GKey) (a32:List ByteArray) (u14:zV) (r:_) (h:zdA t n a1 a2 a3 a4 u5 a19 a20 a21 u9 u10 a30 a31 a32 u14=some r):exec (env Tryz.prog 24 Tryz.f24 call) n (sub [1,1,1,0,1,0,0,1,1,0,0,1,1,1] (zq Tryz.f24)) (mkSt 110 111 [(0,(.ptr 110 0 [] 0)),(5,(I6 a1)),(7,(.ptr 7 0 [] 0)),(8,(.ptr 8 0 [] 0)),(28,(Sl 14 (GStep.ts a2))),(29,(I6 a3)),(30,(I6 a4))] [(7,(.t (GStep.t u5))),(8,(.t (.st [(.v (.int .i64 a19)),(.sl false 1 (texts a20)),(.sl false 1 (zA a21)),(zh.t u9),(GPred.t u10),(.xl 1 (zA a30)),(.xl 4 (GKey.ts a31)),(.sl false 1 (texts a32))]))),(110,(.t (zV.x u14)))])=some (zdA.to r):=by
 obtain⟨a5,a6,a7,⟨a8,a9,a10,a11,a12⟩,⟨a13,a14,a15⟩,a16,a17,a18⟩:=u5
 obtain⟨a22,a23,a24,a25,a26⟩:=u9
 obtain⟨a27,a28,a29⟩:=u10
 obtain⟨a33⟩:=u14
 rw[zdA]at h
 obtain⟨⟨a34,a35,a36,a37,a38,a39,a40,a41,a42,a43,a44,⟨a45,a46,a47,a48,a49⟩,⟨a50,a51,a52⟩,a53,a54,a55,⟨a56⟩⟩,h1,h⟩:=sm h
 obtain⟨a57,a58,a59,a60,⟨a61⟩⟩:=r
 have h2:=h
 exact pK0 (zD (zn GBy.zl (l:=a17)) (zaS (lk (sub [1,1,1,0,1,0,0,1,1,0,0,1,1,1,0,1,0] (zq Tryz.f24)) (by kernel_rfl) (zaI.okL ht n n _ _ _ _ _ _ _ _ _ _ _ _ _ _ _ _ _ h1)) (zfx (zh1 (l:=a53)) (zfx (GKey.zhv (l:=a54)) (zI (zcZ.ok ht n _ _ _ _ _ _ _ h2) ob)))))
theorem zaO.okL (ht:TabOk t call) (n:Nat):∀(k:Nat) (a1:Int) (a2:List GStep) (a3 a4:Int) (u5:zV) (r:_),zaO t n k a1 a2 a3 a4 u5=some r→loopN (exec (env Tryz.prog 24 Tryz.f24 call) n (sub [1,1,1,0,1,0,0] (zq Tryz.f24))) k (mkSt 110 111 [(0,(.ptr 110 0 [] 0)),(5,(I6 a1)),(28,(Sl 14 (GStep.ts a2))),(29,(I6 a3)),(30,(I6 a4))] [(110,(.t (zV.x u5)))])=some (zaO.to r)
 | 0,a1,a2,a3,a4,u5,r,h=>by rw[zaO]at h;cases h
 | k+1,a1,a2,a3,a4,⟨a5⟩,r,h=>by
  rw[zaO]at h
  rcases fk h with ⟨h1,h⟩ | ⟨h1,h⟩
  ·obtain⟨h2,h⟩:=ck h
   obtain⟨⟨a6,a7,a8,⟨a9,a10,a11,a12,a13⟩,⟨a14,a15,a16⟩,a17,a18,a19⟩,h3,h⟩:=sm h
   obtain⟨⟨a20,a21,a22,a23,a24,a25,a26,a27,⟨a28,a29,a30,⟨a31,a32,a33,a34,a35⟩,⟨a36,a37,a38⟩,a39,a40,a41⟩,a42,a43,a44,⟨a45,a46,a47,a48,a49⟩,⟨a50,a51,a52⟩,a53,a54,a55,⟨a56⟩⟩,h4,h⟩:=sm h
   obtain⟨⟨a57,a58,a59,a60,⟨a61⟩⟩,h5,h⟩:=sm h
   exact zF (pK0 (zi h1 (zae h2 (zab (zu GStep.zl h3) (zD (zn zx (l:=a17)) (zaS (lk (sub [1,1,1,0,1,0,0,1,1,0,0,1,1,0,1,0] (zq Tryz.f24)) (by kernel_rfl) (za8.okL ht n n _ _ _ _ _ _ _ _ _ _ _ _ _ _ _ _ _ _ h4)) (zI (zdA.ok ht n _ _ _ _ _ _ _ _ _ _ _ _ _ _ _ h5) ob))))))) (zaO.okL ht n k _ _ _ _ _ _ h)
  ·cases h
   exact zw (pK0 (zi h1 ob)) (fun h=>by cases h)
theorem zaR.ok {n:Nat} {t:Tab} (ht:TabOk t (run Tryz.prog own kp X n)):∀(p1:List GStep) (p2:zV) r,zaR t n p1 p2=some r→run Tryz.prog own kp X (n+1) 24 [(.ptr 0 0 [] 0),(Sl 14 (GStep.ts p1))] [(.t (zV.x p2))]=some ((I6 r.1),[(.t (zV.x r.2))]):=by
 intro p1 p2 r h
 obtain⟨a1,rfl⟩:∃z_,z_=p1:=⟨_,rfl⟩
 obtain⟨a2⟩:=p2
 rw[zaR]at h
 obtain⟨h1,h⟩:=cl h
 obtain⟨⟨a3,a4,a5,a6,a7,⟨a8⟩⟩,h2,h⟩:=sm h
 cases h
 exact zk Tryz.func24 (zab (zir (fs:=[(.xl 1 (zbq a2))]) (i:=0) rfl (zhb _)) (zD (zn zbH (l:=a2)) (zfm (zes zbH h1) (zfx (zeS zbH (a:=a2) (b:=([([]:List GCode)]:List (List GCode)))) (zD (zn GStep.zl (l:=a1)) (zaS (lk (sub [1,1,1,0,1,0] (zq Tryz.f24)) (by kernel_rfl) (zaO.okL ht n n _ _ _ _ _ _ h2)) ob)))))) (by kernel_rfl)
theorem zc7.ok (ht:TabOk t call) (n:Nat) (a1 a2 a3 a4 a5:Int) (a6:ByteArray) (a7 a8:List zh) (r:_) (h:zc7 t n a1 a2 a3 a4 a5 a6 a7 a8=some r):exec (env Tryz.prog 38 Tryz.f38 call) n (sub [1,1,0,1,0,0,1] (zq Tryz.f38)) (mkSt 60 60 [(1,(I6 a1)),(2,(.ptr 2 0 [] 0)),(5,(I6 a2)),(6,(I6 a3))] [(2,(.t (.st [(.v (.int .i64 a4)),(.v (.int .i64 a5)),(.v (.string a6)),(.sl false 5 (zh.ts a7)),(.sl false 5 (zh.ts a8))])))])=some (zc7.to r):=by
 rw[zc7]at h
 obtain⟨h1,h⟩:=ck h
 obtain⟨⟨a9,a10,a11,a12,a13⟩,h2,h⟩:=sm h
 obtain⟨a14,h3,h⟩:=sm h
 cases h
 exact pK0 (zae h1 (zab (zu zh.zl h2) (zN (ht.zbZ _ _ _ h3) ob)))
theorem zca.okL (ht:TabOk t call) (n:Nat):∀(k:Nat) (a1 a2 a3 a4 a5:Int) (a6:ByteArray) (a7 a8:List zh) (r:_),zca t n k a1 a2 a3 a4 a5 a6 a7 a8=some r→loopN (exec (env Tryz.prog 38 Tryz.f38 call) n (sub [1,1,0,1,0,0] (zq Tryz.f38))) k (mkSt 60 60 [(1,(I6 a1)),(2,(.ptr 2 0 [] 0)),(5,(I6 a2)),(6,(I6 a3))] [(2,(.t (.st [(.v (.int .i64 a4)),(.v (.int .i64 a5)),(.v (.string a6)),(.sl false 5 (zh.ts a7)),(.sl false 5 (zh.ts a8))])))])=some (zca.to r)
 | 0,a1,a2,a3,a4,a5,a6,a7,a8,r,h=>by rw[zca]at h;cases h
 | k+1,a1,a2,a3,a4,a5,a6,a7,a8,r,h=>by
  rw[zca]at h
  rcases fk h with ⟨h1,h⟩ | ⟨h1,h⟩
  ·rcases fk h with ⟨h2,h⟩ | ⟨h2,h⟩
   ·obtain⟨⟨a9,a10,a11,a12,a13,a14,a15,a16⟩,h3,h⟩:=sm h
    exact zF (pK0 (zD (zn zh.zl (l:=a7)) (zah h1 (zi h2 (zI (zc7.ok ht n _ _ _ _ _ _ _ _ _ h3) ob))))) (zca.okL ht n k _ _ _ _ _ _ _ _ _ h)
   ·cases h
    exact zw (pK0 (zD (zn zh.zl (l:=a7)) (zah h1 (zi h2 ob)))) (fun h=>by cases h)
  ·cases h
   exact zw (pK0 (zD (zn zh.zl (l:=a7)) (zah h1 (zi (rfl:false=false) ob)))) (fun h=>by cases h)
theorem zc8.ok (ht:TabOk t call) (n:Nat) (a1 a2 a3 a4 a5:Int) (a6:ByteArray) (a7 a8:List zh) (r:_) (h:zc8 t n a1 a2 a3 a4 a5 a6 a7 a8=some r):exec (env Tryz.prog 38 Tryz.f38 call) n (sub [1,1,1,0,1,0,0,1] (zq Tryz.f38)) (mkSt 60 60 [(1,(I6 a1)),(2,(.ptr 2 0 [] 0)),(5,(I6 a2)),(7,(I6 a3))] [(2,(.t (.st [(.v (.int .i64 a4)),(.v (.int .i64 a5)),(.v (.string a6)),(.sl false 5 (zh.ts a7)),(.sl false 5 (zh.ts a8))])))])=some (zc8.to r):=by
 rw[zc8]at h
 obtain⟨h1,h⟩:=ck h
 obtain⟨⟨a9,a10,a11,a12,a13⟩,h2,h⟩:=sm h
 obtain⟨a14,h3,h⟩:=sm h
 cases h
 exact pK0 (zae h1 (zab (zu zh.zl h2) (zN (ht.zbZ _ _ _ h3) ob)))
theorem zcb.okL (ht:TabOk t call) (n:Nat):∀(k:Nat) (a1 a2 a3 a4 a5:Int) (a6:ByteArray) (a7 a8:List zh) (r:_),zcb t n k a1 a2 a3 a4 a5 a6 a7 a8=some r→loopN (exec (env Tryz.prog 38 Tryz.f38 call) n (sub [1,1,1,0,1,0,0] (zq Tryz.f38))) k (mkSt 60 60 [(1,(I6 a1)),(2,(.ptr 2 0 [] 0)),(5,(I6 a2)),(7,(I6 a3))] [(2,(.t (.st [(.v (.int .i64 a4)),(.v (.int .i64 a5)),(.v (.string a6)),(.sl false 5 (zh.ts a7)),(.sl false 5 (zh.ts a8))])))])=some (zcb.to r)
 | 0,a1,a2,a3,a4,a5,a6,a7,a8,r,h=>by rw[zcb]at h;cases h
 | k+1,a1,a2,a3,a4,a5,a6,a7,a8,r,h=>by
  rw[zcb]at h
  rcases fk h with ⟨h1,h⟩ | ⟨h1,h⟩
  ·rcases fk h with ⟨h2,h⟩ | ⟨h2,h⟩
   ·obtain⟨⟨a9,a10,a11,a12,a13,a14,a15,a16⟩,h3,h⟩:=sm h
    exact zF (pK0 (zD (zn zh.zl (l:=a8)) (zah h1 (zi h2 (zI (zc8.ok ht n _ _ _ _ _ _ _ _ _ h3) ob))))) (zcb.okL ht n k _ _ _ _ _ _ _ _ _ h)
   ·cases h
    exact zw (pK0 (zD (zn zh.zl (l:=a8)) (zah h1 (zi h2 ob)))) (fun h=>by cases h)
  ·cases h
   exact zw (pK0 (zD (zn zh.zl (l:=a8)) (zah h1 (zi (rfl:false=false) ob)))) (fun h=>by cases h)
theorem zej.ok (ht:TabOk t call) (n:Nat) (a1 a2 a3:Int) (a4:ByteArray) (a5 a6:List zh) (r:_) (h:zej t n a1 a2 a3 a4 a5 a6=some r):exec (env Tryz.prog 38 Tryz.f38 call) n (sub [1,1,1,1] (zq Tryz.f38)) (mkSt 60 60 [(2,(.ptr 2 0 [] 0)),(5,(I6 a1))] [(2,(.t (.st [(.v (.int .i64 a2)),(.v (.int .i64 a3)),(.v (.string a4)),(.sl false 5 (zh.ts a5)),(.sl false 5 (zh.ts a6))])))])=some (zej.to r):=by
 rw[zej]at h
 obtain⟨a7,h1,h⟩:=sm h
 cases h
 exact pK0 (zD (zqp (P:=Tryz.prog) (t:=3) (x:=(.tmp 57)) (y:=(.const (.int .i64 20))) h1) ob)
theorem zek.ok (ht:TabOk t call) (n:Nat) (a1 a2 a3 a4:Int) (a5:ByteArray) (a6 a7:List zh) (r:_) (h:zek t n a1 a2 a3 a4 a5 a6 a7=some r):exec (env Tryz.prog 38 Tryz.f38 call) n (sub [1,1,1] (zq Tryz.f38)) (mkSt 60 60 [(1,(I6 a1)),(2,(.ptr 2 0 [] 0)),(5,(I6 a2))] [(2,(.t (.st [(.v (.int .i64 a3)),(.v (.int .i64 a4)),(.v (.string a5)),(.sl false 5 (zh.ts a6)),(.sl false 5 (zh.ts a7))])))])=some (zek.to r):=by
 rw[zek]at h
 obtain⟨⟨a8,a9,a10,a11,a12,a13,a14,a15,a16⟩,h1,h⟩:=sm h
 obtain⟨a17,rfl⟩:∃z_,z_=r:=⟨_,rfl⟩
 have h2:=h
 exact pK0 (zaS (lk (sub [1,1,1,0,1,0] (zq Tryz.f38)) (by kernel_rfl) (zcb.okL ht n n _ _ _ _ _ _ _ _ _ h1)) (zI (zej.ok ht n _ _ _ _ _ _ _ h2) ob))
theorem zbZ.ok {n:Nat} {t:Tab} (ht:TabOk t (run Tryz.prog own kp X n)):∀(p1:zh) (p2:Int) r,zbZ t n p1 p2=some r→run Tryz.prog own kp X (n+1) 38 [(.t (zh.t p1)),(I6 p2)] []=some ((I6 r),[]):=by
 intro p1 p2 r h
 obtain⟨a1,a2,a3,a4,a5⟩:=p1
 obtain⟨a6,rfl⟩:∃z_,z_=p2:=⟨_,rfl⟩
 rw[zbZ]at h
 obtain⟨⟨a7,a8,a9,a10,a11,a12,a13,a14,a15⟩,h1,h⟩:=sm h
 obtain⟨a16,rfl⟩:∃z_,z_=r:=⟨_,rfl⟩
 have h2:=h
 exact zk Tryz.func38 (zaS (lk (sub [1,1,0,1,0] (zq Tryz.f38)) (by kernel_rfl) (zca.okL ht n n _ _ _ _ _ _ _ _ _ h1)) (zI (zek.ok ht n _ _ _ _ _ _ _ _ h2) ob)) (by kernel_rfl)
theorem zc9.ok (ht:TabOk t call) (n:Nat) (a1 a2 a3 a4:Int) (a5:List zh) (a6:List GPred) (r:_) (h:zc9 t n a1 a2 a3 a4 a5 a6=some r):exec (env Tryz.prog 39 Tryz.f39 call) n (sub [1,1,0,1,0,0,1] (zq Tryz.f39)) (mkSt 36 36 [(1,(I6 a1)),(2,(.ptr 2 0 [] 0)),(5,(I6 a2)),(6,(I6 a3))] [(2,(.t (.st [(.v (.int .i64 a4)),(.sl false 5 (zh.ts a5)),(.sl false 3 (GPred.ts a6))])))])=some (zc9.to r):=by
 rw[zc9]at h
 obtain⟨h1,h⟩:=ck h
 obtain⟨⟨a7,a8,a9⟩,h2,h⟩:=sm h
 obtain⟨a10,h3,h⟩:=sm h
 cases h
 exact pK0 (zae h1 (zab (zu GPred.zl h2) (zN (ht.zdl _ _ _ h3) ob)))
theorem zcc.okL (ht:TabOk t call) (n:Nat):∀(k:Nat) (a1 a2 a3 a4:Int) (a5:List zh) (a6:List GPred) (r:_),zcc t n k a1 a2 a3 a4 a5 a6=some r→loopN (exec (env Tryz.prog 39 Tryz.f39 call) n (sub [1,1,0,1,0,0] (zq Tryz.f39))) k (mkSt 36 36 [(1,(I6 a1)),(2,(.ptr 2 0 [] 0)),(5,(I6 a2)),(6,(I6 a3))] [(2,(.t (.st [(.v (.int .i64 a4)),(.sl false 5 (zh.ts a5)),(.sl false 3 (GPred.ts a6))])))])=some (zcc.to r)
 | 0,a1,a2,a3,a4,a5,a6,r,h=>by rw[zcc]at h;cases h
 | k+1,a1,a2,a3,a4,a5,a6,r,h=>by
  rw[zcc]at h
  rcases fk h with ⟨h1,h⟩ | ⟨h1,h⟩
  ·rcases fk h with ⟨h2,h⟩ | ⟨h2,h⟩
   ·obtain⟨⟨a7,a8,a9,a10,a11,a12⟩,h3,h⟩:=sm h
    exact zF (pK0 (zD (zn GPred.zl (l:=a6)) (zah h1 (zi h2 (zI (zc9.ok ht n _ _ _ _ _ _ _ h3) ob))))) (zcc.okL ht n k _ _ _ _ _ _ _ h)
   ·cases h
    exact zw (pK0 (zD (zn GPred.zl (l:=a6)) (zah h1 (zi h2 ob)))) (fun h=>by cases h)
  ·cases h
   exact zw (pK0 (zD (zn GPred.zl (l:=a6)) (zah h1 (zi (rfl:false=false) ob)))) (fun h=>by cases h)
theorem zdl.ok {n:Nat} {t:Tab} (ht:TabOk t (run Tryz.prog own kp X n)):∀(p1:GPred) (p2:Int) r,zdl t n p1 p2=some r→run Tryz.prog own kp X (n+1) 39 [(.t (GPred.t p1)),(I6 p2)] []=some ((I6 r),[]):=by
 intro p1 p2 r h
 obtain⟨a1,a2,a3⟩:=p1
 obtain⟨a4,rfl⟩:∃z_,z_=p2:=⟨_,rfl⟩
 rw[zdl]at h
 obtain⟨a5,h1,h⟩:=sm h
 obtain⟨⟨a6,a7,a8,a9,a10,a11,a12⟩,h2,h⟩:=sm h
 cases h
 exact zk Tryz.func39 (zN (ht.zd6 _ _ _ h1) (zaS (lk (sub [1,1,0,1,0] (zq Tryz.f39)) (by kernel_rfl) (zcc.okL ht n n _ _ _ _ _ _ _ h2)) ob)) (by kernel_rfl)
theorem zbu.ok (ht:TabOk t call) (n:Nat) (a1:List (List GStep)) (a2:Int) (a3:Bool) (a4:Int) (a5:List ByteArray) (a6:List Int) (a7 a8:Int) (a9:ByteArray) (a10 a11:List zh) (a12:Int) (a13:List zh) (a14:List GPred) (a15:List (List GStep)) (a16:List GBy) (a17:List ByteArray) (r:_) (h:zbu t n a1 a2 a3 a4 a5 a6 a7 a8 a9 a10 a11 a12 a13 a14 a15 a16 a17=some r):exec (env Tryz.prog 40 Tryz.f40 call) n (sub [1,1,1,0,1,0,0,1,0,0,1] (zq Tryz.f40)) (mkSt 43 43 [(1,(.ptr 1 0 [] 0)),(3,(.t (.sl true 1 (zo a1)))),(4,(I6 a2)),(32,(Bo a3))] [(1,(.t (.st [(.v (.int .i64 a4)),(.sl false 1 (texts a5)),(.sl false 1 (zA a6)),(.st [(.v (.int .i64 a7)),(.v (.int .i64 a8)),(.v (.string a9)),(.sl false 5 (zh.ts a10)),(.sl false 5 (zh.ts a11))]),(.st [(.v (.int .i64 a12)),(.sl false 5 (zh.ts a13)),(.sl false 3 (GPred.ts a14))]),(.sl false 1 (zo a15)),(.sl false 4 (GBy.ts a16)),(.sl false 1 (texts a17))])))])=some (zbu.to r):=by
 rw[zbu]at h
 rcases fk h with ⟨h1,h⟩ | ⟨h1,h⟩
 ·obtain⟨h2,h⟩:=ck h
  obtain⟨⟨a18,a19,a20,a21⟩,h3,h⟩:=sm h
  obtain⟨h4,h⟩:=cl h
  cases h
  exact pK0 (zi h1 (zae h2 (zab (zu GBy.zl h3) (zfm (zes zx h4) (zfx (zeS zx (a:=a1) (b:=([a20]:List (List GStep)))) ob)))))
 ·cases h
  exact pK0 (zi h1 ob)
theorem zbL.okL (ht:TabOk t call) (n:Nat):∀(k:Nat) (a1:List (List GStep)) (a2 a3:Int) (a4:List ByteArray) (a5:List Int) (a6 a7:Int) (a8:ByteArray) (a9 a10:List zh) (a11:Int) (a12:List zh) (a13:List GPred) (a14:List (List GStep)) (a15:List GBy) (a16:List ByteArray) (r:_),zbL t n k a1 a2 a3 a4 a5 a6 a7 a8 a9 a10 a11 a12 a13 a14 a15 a16=some r→loopN (exec (env Tryz.prog 40 Tryz.f40 call) n (sub [1,1,1,0,1,0,0] (zq Tryz.f40))) k (mkSt 43 43 [(1,(.ptr 1 0 [] 0)),(3,(.t (.sl true 1 (zo a1)))),(4,(I6 a2))] [(1,(.t (.st [(.v (.int .i64 a3)),(.sl false 1 (texts a4)),(.sl false 1 (zA a5)),(.st [(.v (.int .i64 a6)),(.v (.int .i64 a7)),(.v (.string a8)),(.sl false 5 (zh.ts a9)),(.sl false 5 (zh.ts a10))]),(.st [(.v (.int .i64 a11)),(.sl false 5 (zh.ts a12)),(.sl false 3 (GPred.ts a13))]),(.sl false 1 (zo a14)),(.sl false 4 (GBy.ts a15)),(.sl false 1 (texts a16))])))])=some (zbL.to r)
 | 0,a1,a2,a3,a4,a5,a6,a7,a8,a9,a10,a11,a12,a13,a14,a15,a16,r,h=>by rw[zbL]at h;cases h
 | k+1,a1,a2,a3,a4,a5,a6,a7,a8,a9,a10,a11,a12,a13,a14,a15,a16,r,h=>by
  rw[zbL]at h
  rcases fk h with ⟨h1,h⟩ | ⟨h1,h⟩
  ·obtain⟨h2,h⟩:=ck h
   obtain⟨⟨a17,a18,a19,a20⟩,h3,h⟩:=sm h
   rcases fk h with ⟨h4,h⟩ | ⟨h4,h⟩
   ·obtain⟨⟨a21,a22,a23,a24,a25,a26,a27,a28,a29,a30,a31,a32,a33,a34,a35,a36⟩,h5,h⟩:=sm h
    exact zF (pK0 (zD (zn GBy.zl (l:=a15)) (zi h1 (zae h2 (zab (zu GBy.zl h3) (zW h4 9 (zI (zbu.ok ht n _ _ _ _ _ _ _ _ _ _ _ _ _ _ _ _ _ _ h5) ob))))))) (zbL.okL ht n k _ _ _ _ _ _ _ _ _ _ _ _ _ _ _ _ _ h)
   ·obtain⟨⟨a37,a38,a39,a40,a41,a42,a43,a44,a45,a46,a47,a48,a49,a50,a51,a52⟩,h6,h⟩:=sm h
    exact zF (pK0 (zD (zn GBy.zl (l:=a15)) (zi h1 (zae h2 (zab (zu GBy.zl h3) (zah h4 (zae h2 (zab (zu GBy.zl h3) (zy h4 (zD (zn GStep.zl (l:=a19)) (zX h4 (zI (zbu.ok ht n _ _ _ _ _ _ _ _ _ _ _ _ _ _ _ _ _ _ h6) ob)))))))))))) (zbL.okL ht n k _ _ _ _ _ _ _ _ _ _ _ _ _ _ _ _ _ h)
  ·cases h
   exact zw (pK0 (zD (zn GBy.zl (l:=a15)) (zi h1 ob))) (fun h=>by cases h)
theorem zb0.ok {n:Nat} {t:Tab} (ht:TabOk t (run Tryz.prog own kp X n)):∀(p1:GStep) r,zb0 t n p1=some r→run Tryz.prog own kp X (n+1) 40 [(.t (GStep.t p1))] []=some ((Sl 1 (zo r)),[]):=by
 intro p1 r h
 obtain⟨a1,a2,a3,⟨a4,a5,a6,a7,a8⟩,⟨a9,a10,a11⟩,a12,a13,a14⟩:=p1
 rw[zb0]at h
 obtain⟨h1,h⟩:=cl h
 obtain⟨⟨a15,a16,a17,a18,a19,a20,a21,a22,a23,a24,a25,a26,a27,a28,a29,a30,a31⟩,h2,h⟩:=sm h
 cases h
 exact zk Tryz.func40 (zfm (zes zx h1) (zfx (zeS zx (a:=([]:List (List GStep))) (b:=a12)) (zaS (lk (sub [1,1,1,0,1,0] (zq Tryz.f40)) (by kernel_rfl) (zbL.okL ht n n _ _ _ _ _ _ _ _ _ _ _ _ _ _ _ _ _ h2)) ob))) (by kernel_rfl)
theorem zbb.okL (ht:TabOk t call) (n:Nat):∀(k:Nat) (a1:List GStep) (a2:List GCode) (a3 a4:Int) (a5:List Int) (a6 a7:Int) (u8:GCode) (a22:Int) (a23:List ByteArray) (a24:List Int) (u12:zh) (u13:GPred) (a33:List (List GStep)) (a34:List GBy) (a35:List ByteArray) (u17:zH) (r:_),zbb t n k a1 a2 a3 a4 a5 a6 a7 u8 a22 a23 a24 u12 u13 a33 a34 a35 u17=some r→loopN (exec (env Tryz.prog 30 Tryz.f30 call) n (sub [1,1,1,1,0,1,0,0,1,1,0,0,1,1,0,1,0,0] (zq Tryz.f30))) k (mkSt 132 133 [(0,(.ptr 132 0 [] 0)),(6,(.t (.sl true 14 (GStep.ts a1)))),(8,(.ptr 8 0 [] 0)),(9,(.ptr 9 0 [] 0)),(47,(Sl 14 (GCode.ts a2))),(48,(I6 a3)),(49,(I6 a4)),(67,(Sl 1 (zA a5))),(68,(I6 a6)),(69,(I6 a7))] [(8,(.t (GCode.t u8))),(9,(.t (.st [(.v (.int .i64 a22)),(.sl false 1 (texts a23)),(.sl false 1 (zA a24)),(zh.t u12),(GPred.t u13),(.sl true 1 (zo a33)),(.sl true 4 (GBy.ts a34)),(.sl false 1 (texts a35))]))),(132,(.t (zH.t u17)))])=some (zbb.to r)
 | 0,a1,a2,a3,a4,a5,a6,a7,u8,a22,a23,a24,u12,u13,a33,a34,a35,u17,r,h=>by rw[zbb]at h;cases h
 | k+1,a1,a2,a3,a4,a5,a6,a7,⟨a8,a9,a10,⟨a11,a12,a13,a14,a15⟩,⟨a16,a17,a18⟩,a19,a20,a21⟩,a22,a23,a24,⟨a25,a26,a27,a28,a29⟩,⟨a30,a31,a32⟩,a33,a34,a35,⟨a36,a37⟩,r,h=>by
  rw[zbb]at h
  rcases fk h with ⟨h1,h⟩ | ⟨h1,h⟩
  ·obtain⟨h2,h⟩:=ck h
   obtain⟨a38,h3,h⟩:=sm h
   obtain⟨⟨a39,a40,⟨a41,a42⟩⟩,h4,h⟩:=sm h
   rcases fk h with ⟨h5,h⟩ | ⟨h5,h⟩
   ·obtain⟨h6,h⟩:=cl h
    exact zF (pK0 (zi h1 (zae h2 (zab (zu zz h3) (zN (ht.zaP _ _ _ h4) (zi (ng h5) (zfm (zes zx h6) (zfx (zeS zx (a:=a33) (b:=([a39]:List (List GStep)))) ob)))))))) (zbb.okL ht n k _ _ _ _ _ _ _ _ _ _ _ _ _ _ _ _ _ _ h)
   ·cases h
    exact zw (pK0 (zi h1 (zae h2 (zab (zu zz h3) (zN (ht.zaP _ _ _ h4) (zi (ng h5) ob)))))) (fun h=>by cases h)
  ·cases h
   exact zw (pK0 (zi h1 ob)) (fun h=>by cases h)
theorem za0.ok (ht:TabOk t call) (n:Nat) (a1:List GStep) (a2:List GCode) (a3 a4:Int) (a5:List GKey) (a6 a7 a8:Int) (a9:List ByteArray) (a10:List Int) (u11:zh) (u12:GPred) (a19:List (List GStep)) (a20:List GBy) (a21:List ByteArray) (u16:GBy) (u17:zH) (r:_) (h:za0 t n a1 a2 a3 a4 a5 a6 a7 a8 a9 a10 u11 u12 a19 a20 a21 u16 u17=some r):exec (env Tryz.prog 30 Tryz.f30 call) n (sub [1,1,1,1,0,1,0,0,1,1,0,0,1,1,1,0,1,0,0,1,1,0,0,1,1,1] (zq Tryz.f30)) (mkSt 132 133 [(0,(.ptr 132 0 [] 0)),(6,(.t (.sl true 14 (GStep.ts a1)))),(9,(.ptr 9 0 [] 0)),(16,(.ptr 16 0 [] 0)),(47,(Sl 14 (GCode.ts a2))),(48,(I6 a3)),(49,(I6 a4)),(89,(Sl 4 (GKey.ts a5))),(90,(I6 a6)),(91,(I6 a7))] [(9,(.t (.st [(.v (.int .i64 a8)),(.sl false 1 (texts a9)),(.sl false 1 (zA a10)),(zh.t u11),(GPred.t u12),(.sl true 1 (zo a19)),(.sl true 4 (GBy.ts a20)),(.sl false 1 (texts a21))]))),(16,(.t (GBy.t u16))),(132,(.t (zH.t u17)))])=some (za0.to r):=by
 obtain⟨a11,a12,a13,a14,a15⟩:=u11
 obtain⟨a16,a17,a18⟩:=u12
 obtain⟨a22,a23,a24,a25⟩:=u16
 obtain⟨a26,a27⟩:=u17
 rw[za0]at h
 obtain⟨h1,h⟩:=cl h
 cases h
 exact pK0 (zfm (zes GBy.zl h1) (zfx (zeS GBy.zl (a:=a20) (b:=([(GBy.mk a22 a23 a24 a25)]:List GBy))) ob))
theorem za1.okL (ht:TabOk t call) (n:Nat):∀(k:Nat) (a1:List GStep) (a2:List GCode) (a3 a4:Int) (a5:List GKey) (a6 a7 a8:Int) (a9:List ByteArray) (a10:List Int) (u11:zh) (u12:GPred) (a19:List (List GStep)) (a20:List GBy) (a21:List ByteArray) (u16:zH) (r:_),za1 t n k a1 a2 a3 a4 a5 a6 a7 a8 a9 a10 u11 u12 a19 a20 a21 u16=some r→loopN (exec (env Tryz.prog 30 Tryz.f30 call) n (sub [1,1,1,1,0,1,0,0,1,1,0,0,1,1,1,0,1,0,0] (zq Tryz.f30))) k (mkSt 132 133 [(0,(.ptr 132 0 [] 0)),(6,(.t (.sl true 14 (GStep.ts a1)))),(9,(.ptr 9 0 [] 0)),(47,(Sl 14 (GCode.ts a2))),(48,(I6 a3)),(49,(I6 a4)),(89,(Sl 4 (GKey.ts a5))),(90,(I6 a6)),(91,(I6 a7))] [(9,(.t (.st [(.v (.int .i64 a8)),(.sl false 1 (texts a9)),(.sl false 1 (zA a10)),(zh.t u11),(GPred.t u12),(.sl true 1 (zo a19)),(.sl true 4 (GBy.ts a20)),(.sl false 1 (texts a21))]))),(132,(.t (zH.t u16)))])=some (za1.to r)
 | 0,a1,a2,a3,a4,a5,a6,a7,a8,a9,a10,u11,u12,a19,a20,a21,u16,r,h=>by rw[za1]at h;cases h
 | k+1,a1,a2,a3,a4,a5,a6,a7,a8,a9,a10,⟨a11,a12,a13,a14,a15⟩,⟨a16,a17,a18⟩,a19,a20,a21,⟨a22,a23⟩,r,h=>by
  rw[za1]at h
  rcases fk h with ⟨h1,h⟩ | ⟨h1,h⟩
  ·obtain⟨h2,h⟩:=ck h
   obtain⟨⟨a24,a25,a26,a27⟩,h3,h⟩:=sm h
   rcases fk h with ⟨h4,h⟩ | ⟨h4,h⟩
   ·obtain⟨⟨a28,a29,⟨a30,a31⟩⟩,h5,h⟩:=sm h
    rcases fk h with ⟨h6,h⟩ | ⟨h6,h⟩
    ·obtain⟨⟨a32,a33,a34,a35,a36,a37,a38,a39,a40,a41,⟨a42,a43,a44,a45,a46⟩,⟨a47,a48,a49⟩,a50,a51,a52,⟨a53,a54⟩⟩,h7,h⟩:=sm h
     exact zF (pK0 (zi h1 (zae h2 (zab (zu GKey.zl h3) (zi h4 (zN (ht.zaP _ _ _ h5) (zi (ng h6) (zI (za0.ok ht n _ _ _ _ _ _ _ _ _ _ _ _ _ _ _ _ _ _ h7) ob)))))))) (za1.okL ht n k _ _ _ _ _ _ _ _ _ _ _ _ _ _ _ _ _ h)
    ·cases h
     exact zw (pK0 (zi h1 (zae h2 (zab (zu GKey.zl h3) (zi h4 (zN (ht.zaP _ _ _ h5) (zi (ng h6) ob))))))) (fun h=>by cases h)
   ·rcases fk h with ⟨h8,h⟩ | ⟨h8,h⟩
    ·cases h
     exact zw (pK0 (zi h1 (zae h2 (zab (zu GKey.zl h3) (zi h4 (zi h8 ob)))))) (fun h=>by cases h)
    ·obtain⟨⟨a55,a56,a57,a58,a59,a60,a61,a62,a63,a64,⟨a65,a66,a67,a68,a69⟩,⟨a70,a71,a72⟩,a73,a74,a75,⟨a76,a77⟩⟩,h9,h⟩:=sm h
     exact zF (pK0 (zi h1 (zae h2 (zab (zu GKey.zl h3) (zi h4 (zi h8 (zI (za0.ok ht n _ _ _ _ _ _ _ _ _ _ _ _ _ _ _ _ _ _ h9) ob))))))) (za1.okL ht n k _ _ _ _ _ _ _ _ _ _ _ _ _ _ _ _ _ h)
  ·cases h
   exact zw (pK0 (zi h1 ob)) (fun h=>by cases h)
theorem zbv.ok (ht:TabOk t call) (n:Nat) (a1:List GStep) (a2:List GCode) (a3 a4 a5:Int) (a6:List ByteArray) (a7:List Int) (u8:zh) (u9:GPred) (a16:List (List GStep)) (a17:List GBy) (a18:List ByteArray) (u13:zH) (r:_) (h:zbv t n a1 a2 a3 a4 a5 a6 a7 u8 u9 a16 a17 a18 u13=some r):exec (env Tryz.prog 30 Tryz.f30 call) n (sub [1,1,1,1,0,1,0,0,1,1,0,0,1,1,1,1] (zq Tryz.f30)) (mkSt 132 133 [(0,(.ptr 132 0 [] 0)),(6,(.t (.sl true 14 (GStep.ts a1)))),(9,(.ptr 9 0 [] 0)),(47,(Sl 14 (GCode.ts a2))),(48,(I6 a3)),(49,(I6 a4))] [(9,(.t (.st [(.v (.int .i64 a5)),(.sl false 1 (texts a6)),(.sl false 1 (zA a7)),(zh.t u8),(GPred.t u9),(.sl true 1 (zo a16)),(.sl true 4 (GBy.ts a17)),(.sl false 1 (texts a18))]))),(132,(.t (zH.t u13)))])=some (zbv.to r):=by
 obtain⟨a8,a9,a10,a11,a12⟩:=u8
 obtain⟨a13,a14,a15⟩:=u9
 obtain⟨a19,a20⟩:=u13
 rw[zbv]at h
 obtain⟨h1,h⟩:=cl h
 cases h
 exact pK0 (zfm (zes GStep.zl h1) (zfx (zeS GStep.zl (a:=a1) (b:=([(GStep.mk a5 a6 a7 (zh.mk a8 a9 a10 a11 a12) (GPred.mk a13 a14 a15) a16 a17 a18)]:List GStep))) ob))
theorem zbc.ok (ht:TabOk t call) (n:Nat) (a1:List GStep) (a2:List GCode) (a3 a4:Int) (u5:GCode) (a19:Int) (a20:List ByteArray) (a21:List Int) (u9:zh) (u10:GPred) (a30:List (List GStep)) (a31:List GBy) (a32:List ByteArray) (u14:zH) (r:_) (h:zbc t n a1 a2 a3 a4 u5 a19 a20 a21 u9 u10 a30 a31 a32 u14=some r):exec (env Tryz.prog 30 Tryz.f30 call) n (sub [1,1,1,1,0,1,0,0,1,1,0,0,1,1,1] (zq Tryz.f30)) (mkSt 132 133 [(0,(.ptr 132 0 [] 0)),(6,(.t (.sl true 14 (GStep.ts a1)))),(8,(.ptr 8 0 [] 0)),(9,(.ptr 9 0 [] 0)),(47,(Sl 14 (GCode.ts a2))),(48,(I6 a3)),(49,(I6 a4))] [(8,(.t (GCode.t u5))),(9,(.t (.st [(.v (.int .i64 a19)),(.sl false 1 (texts a20)),(.sl false 1 (zA a21)),(zh.t u9),(GPred.t u10),(.sl true 1 (zo a30)),(.sl true 4 (GBy.ts a31)),(.sl false 1 (texts a32))]))),(132,(.t (zH.t u14)))])=some (zbc.to r):=by
 obtain⟨a5,a6,a7,⟨a8,a9,a10,a11,a12⟩,⟨a13,a14,a15⟩,a16,a17,a18⟩:=u5
 obtain⟨a22,a23,a24,a25,a26⟩:=u9
 obtain⟨a27,a28,a29⟩:=u10
 obtain⟨a33,a34⟩:=u14
 rw[zbc]at h
 obtain⟨⟨a35,a36,⟨a37,a38⟩⟩ | ⟨a39,a40,a41,a42,a43,a44,a45,a46,a47,a48,a49,⟨a50,a51,a52,a53,a54⟩,⟨a55,a56,a57⟩,a58,a59,a60,⟨a61,a62⟩⟩,h1,h⟩:=sm h
 ·cases h
  exact pK0 (zD (zn GKey.zl (l:=a17)) (zaS (lk (sub [1,1,1,1,0,1,0,0,1,1,0,0,1,1,1,0,1,0] (zq Tryz.f30)) (by kernel_rfl) (za1.okL ht n n _ _ _ _ _ _ _ _ _ _ _ _ _ _ _ _ _ h1)) ob))
 ·obtain⟨⟨a63,a64,a65,a66,⟨a67,a68⟩⟩,h2,h⟩:=sm h
  cases h
  exact pK0 (zD (zn GKey.zl (l:=a17)) (zaS (lk (sub [1,1,1,1,0,1,0,0,1,1,0,0,1,1,1,0,1,0] (zq Tryz.f30)) (by kernel_rfl) (za1.okL ht n n _ _ _ _ _ _ _ _ _ _ _ _ _ _ _ _ _ h1)) (zI (zbv.ok ht n _ _ _ _ _ _ _ _ _ _ _ _ _ _ h2) ob)))
theorem zbw.okL (ht:TabOk t call) (n:Nat):∀(k:Nat) (a1:List GStep) (a2:List GCode) (a3 a4:Int) (u5:zH) (r:_),zbw t n k a1 a2 a3 a4 u5=some r→loopN (exec (env Tryz.prog 30 Tryz.f30 call) n (sub [1,1,1,1,0,1,0,0] (zq Tryz.f30))) k (mkSt 132 133 [(0,(.ptr 132 0 [] 0)),(6,(.t (.sl true 14 (GStep.ts a1)))),(47,(Sl 14 (GCode.ts a2))),(48,(I6 a3)),(49,(I6 a4))] [(132,(.t (zH.t u5)))])=some (zbw.to r)
 | 0,a1,a2,a3,a4,u5,r,h=>by rw[zbw]at h;cases h
 | k+1,a1,a2,a3,a4,⟨a5,a6⟩,r,h=>by
  rw[zbw]at h
  rcases fk h with ⟨h1,h⟩ | ⟨h1,h⟩
  ·obtain⟨h2,h⟩:=ck h
   obtain⟨⟨a7,a8,a9,⟨a10,a11,a12,a13,a14⟩,⟨a15,a16,a17⟩,a18,a19,a20⟩,h3,h⟩:=sm h
   have o4 {os} (x:Obls (env Tryz.prog 30 Tryz.f30 call) n os):=zi h1 (zae h2 (zab (zu GCode.zl h3) (zD (zn zz (l:=a18)) x)))
   obtain⟨⟨a21,a22,⟨a23,a24⟩⟩ | ⟨a25,a26,a27,a28,a29,a30,a31,a32,⟨a33,a34,a35,⟨a36,a37,a38,a39,a40⟩,⟨a41,a42,a43⟩,a44,a45,a46⟩,a47,a48,a49,⟨a50,a51,a52,a53,a54⟩,⟨a55,a56,a57⟩,a58,a59,a60,⟨a61,a62⟩⟩,h4,h⟩:=sm h
   ·cases h
    exact zw (pK0 (o4 (zaS (lk (sub [1,1,1,1,0,1,0,0,1,1,0,0,1,1,0,1,0] (zq Tryz.f30)) (by kernel_rfl) (zbb.okL ht n n _ _ _ _ _ _ _ _ _ _ _ _ _ _ _ _ _ _ h4)) ob))) (fun h=>by cases h)
   ·obtain⟨⟨a63,a64,⟨a65,a66⟩⟩ | ⟨a67,a68,a69,a70,⟨a71,a72⟩⟩,h5,h⟩:=sm h
    ·cases h
     exact zw (pK0 (o4 (zaS (lk (sub [1,1,1,1,0,1,0,0,1,1,0,0,1,1,0,1,0] (zq Tryz.f30)) (by kernel_rfl) (zbb.okL ht n n _ _ _ _ _ _ _ _ _ _ _ _ _ _ _ _ _ _ h4)) (zI (zbc.ok ht n _ _ _ _ _ _ _ _ _ _ _ _ _ _ _ h5) ob)))) (fun h=>by cases h)
    ·exact zF (pK0 (o4 (zaS (lk (sub [1,1,1,1,0,1,0,0,1,1,0,0,1,1,0,1,0] (zq Tryz.f30)) (by kernel_rfl) (zbb.okL ht n n _ _ _ _ _ _ _ _ _ _ _ _ _ _ _ _ _ _ h4)) (zI (zbc.ok ht n _ _ _ _ _ _ _ _ _ _ _ _ _ _ _ h5) ob)))) (zbw.okL ht n k _ _ _ _ _ _ h)
  ·cases h
   exact zw (pK0 (zi h1 ob)) (fun h=>by cases h)
end Go.Proofs.YtgmidllbkjdnnaaGreatDoor.W
