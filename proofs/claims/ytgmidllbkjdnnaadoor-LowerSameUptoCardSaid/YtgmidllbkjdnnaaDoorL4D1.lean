/- The proofs of it, part 1. -/
import Derived.Test.YtgmidllbkjdnnaaDoorL4D0
namespace Go.Proofs.YtgmidllbkjdnnaaDoor.W
open Go.Proofs.YtgmidllbkjdnnaaDoor.Flat
set_option linter.unusedVariables false
set_option linter.unusedSimpArgs false
set_option smartUnfolding false
attribute [local irreducible] zaK zaL zdc zdb zbH zbl za7 zbG zcZ zb4 zao zaz zb2 zbr zds quoI zcW zcX zdd zbb zc2 zcC zcY zbw zcs zcH zcG zcF strAt zaT
variable {t:Tab} {call:FuncId→List AV→List AV→Option (AV × List AV)}
theorem zci.okL (ht:TabOk t call) (n:Nat):∀(k:Nat) (a1:Int) (a2 a3:List GStep) (a4 a5:Int) (a6:List GBy) (a7 a8 a9:Int) (a10:List ByteArray) (a11:List Int) (a12 a13:Int) (a14:ByteArray) (a15 a16:List zh) (a17:Int) (a18:List zh) (a19:List GPred) (a20:List (List GStep)) (a21:List GBy) (a22:List ByteArray) (r:_),zci t n k a1 a2 a3 a4 a5 a6 a7 a8 a9 a10 a11 a12 a13 a14 a15 a16 a17 a18 a19 a20 a21 a22=some r→loopN (exec (env Tryd.prog 38 Tryd.f38 call) n (sub [1,1,1,0,1,0,0,1,1,0,0,1,1,0,1,0,0] (zt Tryd.f38))) k (mkSt 73 73 [(1,(I6 a1)),(5,(.t (.sl true 14 (GStep.ts a2)))),(8,(.ptr 8 0 [] 0)),(13,(Sl 14 (GStep.ts a3))),(14,(I6 a4)),(15,(I6 a5)),(43,(Sl 4 (GBy.ts a6))),(44,(I6 a7)),(45,(I6 a8))] [(8,(.t (.st [(.v (.int .i64 a9)),(.sl true 1 (texts a10)),(.sl true 1 (zz a11)),(.st [(.v (.int .i64 a12)),(.v (.int .i64 a13)),(.v (.string a14)),(.sl false 5 (zh.ts a15)),(.sl false 5 (zh.ts a16))]),(.st [(.v (.int .i64 a17)),(.sl false 5 (zh.ts a18)),(.sl false 3 (GPred.ts a19))]),(.sl false 1 (zq a20)),(.sl true 4 (GBy.ts a21)),(.sl true 1 (texts a22))])))])=some (zci.to r)
 | 0,a1,a2,a3,a4,a5,a6,a7,a8,a9,a10,a11,a12,a13,a14,a15,a16,a17,a18,a19,a20,a21,a22,r,h=>by rw[zci]at h;cases h
 | k+1,a1,a2,a3,a4,a5,a6,a7,a8,a9,a10,a11,a12,a13,a14,a15,a16,a17,a18,a19,a20,a21,a22,r,h=>by
  rw[zci]at h
  rcases fk h with ⟨h1,h⟩ | ⟨h1,h⟩
  ·obtain⟨h2,h⟩:=ck h
   obtain⟨⟨a23,a24,a25,a26⟩,h3,h⟩:=sm h
   obtain⟨a27,h4,h⟩:=sm h
   obtain⟨h5,h⟩:=cl h
   exact zM (path (zk h1 (zaq h2 (zan (zu GBy.zl h3) (zaa (ht.za3 _ _ _ h4) (zeT (zdT GBy.zl h5) (zfb (zd7 GBy.zl (a:=a21) (b:=([(GBy.mk a23 a24 a27 a26)]:List GBy))) ob)))))) (by kernel_rfl)) (zci.okL ht n k _ _ _ _ _ _ _ _ _ _ _ _ _ _ _ _ _ _ _ _ _ _ _ h)
  ·cases h
   exact zx (path (zk h1 ob) (by kernel_rfl)) (fun h=>by cases h)
theorem zcZ.ok (ht:TabOk t call) (n:Nat) (a1:Int) (a2 a3:List GStep) (a4 a5 a6:Int) (a7:List ByteArray) (a8:List Int) (a9 a10:Int) (a11:ByteArray) (a12 a13:List zh) (a14:Int) (a15:List zh) (a16:List GPred) (a17:List (List GStep)) (a18:List GBy) (a19:List ByteArray) (r:_) (h:zcZ t n a1 a2 a3 a4 a5 a6 a7 a8 a9 a10 a11 a12 a13 a14 a15 a16 a17 a18 a19=some r):exec (env Tryd.prog 38 Tryd.f38 call) n (sub [1,1,1,0,1,0,0,1,1,0,0,1,1,1] (zt Tryd.f38)) (mkSt 73 73 [(1,(I6 a1)),(5,(.t (.sl true 14 (GStep.ts a2)))),(8,(.ptr 8 0 [] 0)),(13,(Sl 14 (GStep.ts a3))),(14,(I6 a4)),(15,(I6 a5))] [(8,(.t (.st [(.v (.int .i64 a6)),(.sl true 1 (texts a7)),(.sl true 1 (zz a8)),(.st [(.v (.int .i64 a9)),(.v (.int .i64 a10)),(.v (.string a11)),(.sl false 5 (zh.ts a12)),(.sl false 5 (zh.ts a13))]),(.st [(.v (.int .i64 a14)),(.sl false 5 (zh.ts a15)),(.sl false 3 (GPred.ts a16))]),(.sl false 1 (zq a17)),(.sl true 4 (GBy.ts a18)),(.sl true 1 (texts a19))])))])=some (zcZ.to r):=by
 rw[zcZ]at h
 obtain⟨h1,h⟩:=cl h
 cases h
 exact path (zeT (zdT GStep.zl h1) (zfb (zd7 GStep.zl (a:=a2) (b:=([(GStep.mk a6 a7 a8 (zh.mk a9 a10 a11 a12 a13) (GPred.mk a14 a15 a16) a17 a18 a19)]:List GStep))) ob)) (by kernel_rfl)
theorem zcj.okL (ht:TabOk t call) (n:Nat):∀(k:Nat) (a1:Int) (a2 a3:List GStep) (a4 a5:Int) (r:_),zcj t n k a1 a2 a3 a4 a5=some r→loopN (exec (env Tryd.prog 38 Tryd.f38 call) n (sub [1,1,1,0,1,0,0] (zt Tryd.f38))) k (mkSt 73 73 [(1,(I6 a1)),(5,(.t (.sl true 14 (GStep.ts a2)))),(13,(Sl 14 (GStep.ts a3))),(14,(I6 a4)),(15,(I6 a5))] [])=some (zcj.to r)
 | 0,a1,a2,a3,a4,a5,r,h=>by rw[zcj]at h;cases h
 | k+1,a1,a2,a3,a4,a5,r,h=>by
  rw[zcj]at h
  rcases fk h with ⟨h1,h⟩ | ⟨h1,h⟩
  ·obtain⟨h2,h⟩:=ck h
   obtain⟨⟨a6,a7,a8,⟨a9,a10,a11,a12,a13⟩,⟨a14,a15,a16⟩,a17,a18,a19⟩,h3,h⟩:=sm h
   obtain⟨a20,h4,h⟩:=sm h
   obtain⟨a21,h5,h⟩:=sm h
   obtain⟨⟨a22,a23,a24,a25,a26⟩,h6,h⟩:=sm h
   obtain⟨⟨a27,a28,a29⟩,h7,h⟩:=sm h
   obtain⟨a30,h8,h⟩:=sm h
   obtain⟨a31,h9,h⟩:=sm h
   obtain⟨⟨a32,a33,a34,a35,a36,a37,a38,a39,a40,a41,a42,a43,a44,a45,a46,a47,a48,a49,a50,a51,a52,a53,a54⟩,h10,h⟩:=sm h
   obtain⟨⟨a55,a56,a57,a58,a59⟩,h11,h⟩:=sm h
   exact zM (path (zk h1 (zaq h2 (zan (zu GStep.zl h3) (zaa (ht.slices_Clone_string _ _ h4) (zaa (ht.slices_Clone_int _ _ h5) (zaa (ht.zcM _ _ h6) (zaa (ht.zdH _ _ h7) (zaa (ht.slices_Clone_string _ _ h8) (zaa (ht.zdf _ _ _ h9) (zG (zo GBy.zl (l:=a18)) (zbj (lk (sub [1,1,1,0,1,0,0,1,1,0,0,1,1,0,1,0] (zt Tryd.f38)) (by kernel_rfl) (zci.okL ht n n _ _ _ _ _ _ _ _ _ _ _ _ _ _ _ _ _ _ _ _ _ _ _ h10)) (zau (zcZ.ok ht n _ _ _ _ _ _ _ _ _ _ _ _ _ _ _ _ _ _ _ _ h11) ob)))))))))))) (by kernel_rfl)) (zcj.okL ht n k _ _ _ _ _ _ h)
  ·cases h
   exact zx (path (zk h1 ob) (by kernel_rfl)) (fun h=>by cases h)
theorem za3.ok {n:Nat} {t:Tab} (ht:TabOk t (run Tryd.prog own kp X n)):∀(p1:List GStep) (p2:Int) r,za3 t n p1 p2=some r→run Tryd.prog own kp X (n+1) 38 [(Sl 14 (GStep.ts p1)),(I6 p2)] []=some ((Sl 14 (GStep.ts r)),[]):=by
 intro p1 p2 r h
 obtain⟨a1,rfl⟩:∃z_,z_=p1:=⟨_,rfl⟩
 obtain⟨a2,rfl⟩:∃z_,z_=p2:=⟨_,rfl⟩
 rw[za3]at h
 rcases fk h with ⟨h1,h⟩ | ⟨h1,h⟩
 ·cases h
  exact zi Tryd.func38 (zk h1 ob) (by kernel_rfl)
 ·obtain⟨⟨a3,a4,a5,a6,a7,a8⟩,h2,h⟩:=sm h
  cases h
  exact zi Tryd.func38 (zk h1 (zG (zo GStep.zl (l:=a1)) (zbj (lk (sub [1,1,1,0,1,0] (zt Tryd.f38)) (by kernel_rfl) (zcj.okL ht n n _ _ _ _ _ _ h2)) ob))) (by kernel_rfl)
theorem zca.ok {n:Nat} {t:Tab} (ht:TabOk t (run Tryd.prog own kp X n)):∀(p1:List GCode) (p2:List GCode) r,zca t n p1 p2=some r→run Tryd.prog own kp X (n+1) 22 [(Sl 14 (GCode.ts p1)),(Sl 14 (GCode.ts p2))] []=some ((Bo r),[]):=by
 intro p1 p2 r h
 obtain⟨a1,rfl⟩:∃z_,z_=p1:=⟨_,rfl⟩
 obtain⟨a2,rfl⟩:∃z_,z_=p2:=⟨_,rfl⟩
 rw[zca]at h
 obtain⟨a3,rfl⟩:∃z_,z_=r:=⟨_,rfl⟩
 have h1:=h
 exact zi Tryd.func22 (zaa (ht.zaj _ _ _ h1) ob) (by kernel_rfl)
theorem zbb.ok (ht:TabOk t call) (n:Nat) (a1 a2:Int) (a3:Bool) (a4 a5:Int) (a6:ByteArray) (a7 a8:List zh) (a9 a10:Int) (a11:ByteArray) (a12 a13:List zh) (r:_) (h:zbb t n a1 a2 a3 a4 a5 a6 a7 a8 a9 a10 a11 a12 a13=some r):exec (env Tryd.prog 44 Tryd.f44 call) n (sub [1,1,1,1,0,1] (zt Tryd.f44)) (mkSt 54 54 [(2,(I6 a1)),(3,(.ptr 3 0 [] 0)),(4,(.ptr 4 0 [] 0)),(7,(I6 a2)),(32,(Bo a3))] [(3,(.t (.st [(.v (.int .i64 a4)),(.v (.int .i64 a5)),(.v (.string a6)),(.sl false 5 (zh.ts a7)),(.sl false 5 (zh.ts a8))]))),(4,(.t (.st [(.v (.int .i64 a9)),(.v (.int .i64 a10)),(.v (.string a11)),(.sl false 5 (zh.ts a12)),(.sl false 5 (zh.ts a13))])))])=some (zbb.to r):=by
 rw[zbb]at h
 rcases fk h with ⟨h1,h⟩ | ⟨h1,h⟩
 ·obtain⟨a14,h2,h⟩:=sm h
  cases h
  exact path (zk h1 (zaa (ht.zdg _ _ _ _ h2) ob)) (by kernel_rfl)
 ·cases h
  exact path (zk h1 ob) (by kernel_rfl)
theorem zck.ok (ht:TabOk t call) (n:Nat) (a1 a2:Int) (a3:Bool) (a4 a5:Int) (a6:ByteArray) (a7 a8:List zh) (a9 a10:Int) (a11:ByteArray) (a12 a13:List zh) (r:_) (h:zck t n a1 a2 a3 a4 a5 a6 a7 a8 a9 a10 a11 a12 a13=some r):exec (env Tryd.prog 44 Tryd.f44 call) n (sub [1,1,1,1,1,0,1] (zt Tryd.f44)) (mkSt 54 54 [(2,(I6 a1)),(3,(.ptr 3 0 [] 0)),(4,(.ptr 4 0 [] 0)),(7,(I6 a2)),(45,(Bo a3))] [(3,(.t (.st [(.v (.int .i64 a4)),(.v (.int .i64 a5)),(.v (.string a6)),(.sl false 5 (zh.ts a7)),(.sl false 5 (zh.ts a8))]))),(4,(.t (.st [(.v (.int .i64 a9)),(.v (.int .i64 a10)),(.v (.string a11)),(.sl false 5 (zh.ts a12)),(.sl false 5 (zh.ts a13))])))])=some (zck.to r):=by
 rw[zck]at h
 rcases fk h with ⟨h1,h⟩ | ⟨h1,h⟩
 ·obtain⟨a14,rfl⟩:∃z_,z_=r:=⟨_,rfl⟩
  have h2:=h
  exact path (zk h1 (zaa (ht.zdg _ _ _ _ h2) ob)) (by kernel_rfl)
 ·cases h
  exact path (zk h1 ob) (by kernel_rfl)
theorem zcl.ok (ht:TabOk t call) (n:Nat) (a1 a2 a3 a4:Int) (a5:ByteArray) (a6 a7:List zh) (a8 a9:Int) (a10:ByteArray) (a11 a12:List zh) (r:_) (h:zcl t n a1 a2 a3 a4 a5 a6 a7 a8 a9 a10 a11 a12=some r):exec (env Tryd.prog 44 Tryd.f44 call) n (sub [1,1,1,1,1] (zt Tryd.f44)) (mkSt 54 54 [(2,(I6 a1)),(3,(.ptr 3 0 [] 0)),(4,(.ptr 4 0 [] 0)),(7,(I6 a2))] [(3,(.t (.st [(.v (.int .i64 a3)),(.v (.int .i64 a4)),(.v (.string a5)),(.sl false 5 (zh.ts a6)),(.sl false 5 (zh.ts a7))]))),(4,(.t (.st [(.v (.int .i64 a8)),(.v (.int .i64 a9)),(.v (.string a10)),(.sl false 5 (zh.ts a11)),(.sl false 5 (zh.ts a12))])))])=some (zcl.to r):=by
 rw[zcl]at h
 rcases fk h with ⟨h1,h⟩ | ⟨h1,h⟩
 ·obtain⟨a13,rfl⟩:∃z_,z_=r:=⟨_,rfl⟩
  have h2:=h
  exact path (zV h1 (zau (zck.ok ht n _ _ _ _ _ _ _ _ _ _ _ _ _ _ h2) ob)) (by kernel_rfl)
 ·obtain⟨a14,rfl⟩:∃z_,z_=r:=⟨_,rfl⟩
  have h3:=h
  exact path (zV h1 (zau (zck.ok ht n _ _ _ _ _ _ _ _ _ _ _ _ _ _ h3) ob)) (by kernel_rfl)
theorem zcm.ok (ht:TabOk t call) (n:Nat) (a1 a2 a3 a4:Int) (a5:ByteArray) (a6 a7:List zh) (a8 a9:Int) (a10:ByteArray) (a11 a12:List zh) (r:_) (h:zcm t n a1 a2 a3 a4 a5 a6 a7 a8 a9 a10 a11 a12=some r):exec (env Tryd.prog 44 Tryd.f44 call) n (sub [1,1,1,1] (zt Tryd.f44)) (mkSt 54 54 [(2,(I6 a1)),(3,(.ptr 3 0 [] 0)),(4,(.ptr 4 0 [] 0)),(7,(I6 a2))] [(3,(.t (.st [(.v (.int .i64 a3)),(.v (.int .i64 a4)),(.v (.string a5)),(.sl false 5 (zh.ts a6)),(.sl false 5 (zh.ts a7))]))),(4,(.t (.st [(.v (.int .i64 a8)),(.v (.int .i64 a9)),(.v (.string a10)),(.sl false 5 (zh.ts a11)),(.sl false 5 (zh.ts a12))])))])=some (zcm.to r):=by
 rw[zcm]at h
 rcases fk h with ⟨h1,h⟩ | ⟨h1,h⟩
 ·obtain⟨⟨a13,a14,a15,a16,a17,a18,a19,a20,a21,a22,a23,a24⟩,h2,h⟩:=sm h
  obtain⟨a25,rfl⟩:∃z_,z_=r:=⟨_,rfl⟩
  have h3:=h
  exact path (zV h1 (zau (zbb.ok ht n _ _ _ _ _ _ _ _ _ _ _ _ _ _ h2) (zau (zcl.ok ht n _ _ _ _ _ _ _ _ _ _ _ _ _ h3) ob))) (by kernel_rfl)
 ·obtain⟨⟨a26,a27,a28,a29,a30,a31,a32,a33,a34,a35,a36,a37⟩,h4,h⟩:=sm h
  obtain⟨a38,rfl⟩:∃z_,z_=r:=⟨_,rfl⟩
  have h5:=h
  exact path (zV h1 (zau (zbb.ok ht n _ _ _ _ _ _ _ _ _ _ _ _ _ _ h4) (zau (zcl.ok ht n _ _ _ _ _ _ _ _ _ _ _ _ _ h5) ob))) (by kernel_rfl)
theorem zcn.ok (ht:TabOk t call) (n:Nat) (a1 a2 a3 a4:Int) (a5:ByteArray) (a6 a7:List zh) (a8 a9:Int) (a10:ByteArray) (a11 a12:List zh) (r:_) (h:zcn t n a1 a2 a3 a4 a5 a6 a7 a8 a9 a10 a11 a12=some r):exec (env Tryd.prog 44 Tryd.f44 call) n (sub [1,1,1] (zt Tryd.f44)) (mkSt 54 54 [(2,(I6 a1)),(3,(.ptr 3 0 [] 0)),(4,(.ptr 4 0 [] 0)),(7,(I6 a2))] [(3,(.t (.st [(.v (.int .i64 a3)),(.v (.int .i64 a4)),(.v (.string a5)),(.sl false 5 (zh.ts a6)),(.sl false 5 (zh.ts a7))]))),(4,(.t (.st [(.v (.int .i64 a8)),(.v (.int .i64 a9)),(.v (.string a10)),(.sl false 5 (zh.ts a11)),(.sl false 5 (zh.ts a12))])))])=some (zcn.to r):=by
 rw[zcn]at h
 rcases fk h with ⟨h1,h⟩ | ⟨h1,h⟩
 ·obtain⟨a13,h2,h⟩:=sm h
  obtain⟨a14,rfl⟩:∃z_,z_=r:=⟨_,rfl⟩
  have h3:=h
  exact path (zk h1 (zaa (ht.zdj _ _ _ h2) (zau (zcm.ok ht n _ _ _ _ _ _ _ _ _ _ _ _ _ h3) ob))) (by kernel_rfl)
 ·obtain⟨a15,rfl⟩:∃z_,z_=r:=⟨_,rfl⟩
  have h4:=h
  exact path (zk h1 (zau (zcm.ok ht n _ _ _ _ _ _ _ _ _ _ _ _ _ h4) ob)) (by kernel_rfl)
theorem zaJ.ok {n:Nat} {t:Tab} (ht:TabOk t (run Tryd.prog own kp X n)):∀(p1:zh) (p2:zh) (p3:Int) r,zaJ t n p1 p2 p3=some r→run Tryd.prog own kp X (n+1) 44 [(.t (zh.t p1)),(.t (zh.t p2)),(I6 p3)] []=some ((I6 r),[]):=by
 intro p1 p2 p3 r h
 obtain⟨a1,a2,a3,a4,a5⟩:=p1
 obtain⟨a6,a7,a8,a9,a10⟩:=p2
 obtain⟨a11,rfl⟩:∃z_,z_=p3:=⟨_,rfl⟩
 rw[zaJ]at h
 obtain⟨a12,h1,h⟩:=sm h
 rcases fk h with ⟨h2,h⟩ | ⟨h2,h⟩
 ·obtain⟨a13,h3,h⟩:=sm h
  obtain⟨a14,rfl⟩:∃z_,z_=r:=⟨_,rfl⟩
  have h4:=h
  exact zi Tryd.func44 (zaa (ht.zbg _ _ _ h1) (zk h2 (zaa (ht.zbg _ _ _ h3) (zau (zcn.ok ht n _ _ _ _ _ _ _ _ _ _ _ _ _ h4) ob)))) (by kernel_rfl)
 ·obtain⟨a15,rfl⟩:∃z_,z_=r:=⟨_,rfl⟩
  have h5:=h
  exact zi Tryd.func44 (zaa (ht.zbg _ _ _ h1) (zk h2 (zau (zcn.ok ht n _ _ _ _ _ _ _ _ _ _ _ _ _ h5) ob))) (by kernel_rfl)
theorem zaR.okL (ht:TabOk t call) (n:Nat):∀(k:Nat) (a1 a2:List zh) (a3:Int) (r:_),zaR t n k a1 a2 a3=some r→loopN (exec (env Tryd.prog 45 Tryd.f45 call) n (sub [1,1,0,1,0,0] (zt Tryd.f45))) k (mkSt 27 27 [(0,(Sl 5 (zh.ts a1))),(1,(Sl 5 (zh.ts a2))),(5,(I6 a3))] [])=some (zaR.to r)
 | 0,a1,a2,a3,r,h=>by rw[zaR]at h;cases h
 | k+1,a1,a2,a3,r,h=>by
  rw[zaR]at h
  rcases fk h with ⟨h1,h⟩ | ⟨h1,h⟩
  ·obtain⟨h2,h⟩:=ck h
   obtain⟨⟨a4,a5,a6,a7,a8⟩,h3,h⟩:=sm h
   obtain⟨⟨a9,a10,a11,a12,a13⟩,h4,h⟩:=sm h
   obtain⟨a14,h5,h⟩:=sm h
   have o7 {os} (x:Obls (env Tryd.prog 45 Tryd.f45 call) n os):=zG (zo zh.zl (l:=a1)) (zk h1 (zaq h2 (zan (zu zh.zl h3) (zaq h2 (zan (zu zh.zl h4) (zaa (ht.zb0 _ _ _ h5) x))))))
   rcases fk h with ⟨h6,h⟩ | ⟨h6,h⟩
   ·exact zM (path (o7 (zk (ng h6) ob)) (by kernel_rfl)) (zaR.okL ht n k _ _ _ _ h)
   ·cases h
    exact zx (path (o7 (zk (ng h6) ob)) (by kernel_rfl)) (fun h=>by cases h)
  ·cases h
   exact zx (path (zG (zo zh.zl (l:=a1)) (zk h1 ob)) (by kernel_rfl)) (fun h=>by cases h)
theorem zbO.ok {n:Nat} {t:Tab} (ht:TabOk t (run Tryd.prog own kp X n)):∀(p1:List zh) (p2:List zh) r,zbO t n p1 p2=some r→run Tryd.prog own kp X (n+1) 45 [(Sl 5 (zh.ts p1)),(Sl 5 (zh.ts p2))] []=some ((Bo r),[]):=by
 intro p1 p2 r h
 obtain⟨a1,rfl⟩:∃z_,z_=p1:=⟨_,rfl⟩
 obtain⟨a2,rfl⟩:∃z_,z_=p2:=⟨_,rfl⟩
 rw[zbO]at h
 have o2 {os} (x:Obls (env Tryd.prog 45 Tryd.f45 (run Tryd.prog own kp X n)) n os):=zG (zo zh.zl (l:=a1)) (zG (zo zh.zl (l:=a2)) x)
 rcases fk h with ⟨h1,h⟩ | ⟨h1,h⟩
 ·cases h
  exact zi Tryd.func45 (o2 (zk h1 ob)) (by kernel_rfl)
 ·obtain⟨a3 | ⟨a4,a5,a6,a7⟩,h2,h⟩:=sm h
  ·cases h
   exact zi Tryd.func45 (o2 (zk h1 (zbj (lk (sub [1,1,0,1,0] (zt Tryd.f45)) (by kernel_rfl) (zaR.okL ht n n _ _ _ _ h2)) ob))) (by kernel_rfl)
  ·cases h
   exact zi Tryd.func45 (o2 (zk h1 (zbj (lk (sub [1,1,0,1,0] (zt Tryd.f45)) (by kernel_rfl) (zaR.okL ht n n _ _ _ _ h2)) ob))) (by kernel_rfl)
theorem zdd.ok (ht:TabOk t call) (n:Nat) (a1:List zh) (a2 a3 a4:Int) (r:_) (h:zdd t n a1 a2 a3 a4=some r):exec (env Tryd.prog 46 Tryd.f46 call) n (sub [1,1,0,1,0,0,1] (zt Tryd.f46)) (mkSt 29 29 [(0,(Sl 5 (zh.ts a1))),(1,(I6 a2)),(5,(I6 a3)),(6,(I6 a4))] [])=some (zdd.to r):=by
 rw[zdd]at h
 obtain⟨h1,h⟩:=ck h
 obtain⟨⟨a5,a6,a7,a8,a9⟩,h2,h⟩:=sm h
 obtain⟨a10,h3,h⟩:=sm h
 cases h
 exact path (zaq h1 (zan (zu zh.zl h2) (zaa (ht.zbD _ _ _ h3) ob))) (by kernel_rfl)
theorem zct.okL (ht:TabOk t call) (n:Nat):∀(k:Nat) (a1:List zh) (a2 a3 a4:Int) (r:_),zct t n k a1 a2 a3 a4=some r→loopN (exec (env Tryd.prog 46 Tryd.f46 call) n (sub [1,1,0,1,0,0] (zt Tryd.f46))) k (mkSt 29 29 [(0,(Sl 5 (zh.ts a1))),(1,(I6 a2)),(5,(I6 a3)),(6,(I6 a4))] [])=some (zct.to r)
 | 0,a1,a2,a3,a4,r,h=>by rw[zct]at h;cases h
 | k+1,a1,a2,a3,a4,r,h=>by
  rw[zct]at h
  rcases fk h with ⟨h1,h⟩ | ⟨h1,h⟩
  ·rcases fk h with ⟨h2,h⟩ | ⟨h2,h⟩
   ·obtain⟨⟨a5,a6,a7,a8⟩,h3,h⟩:=sm h
    exact zM (path (zG (zo zh.zl (l:=a1)) (za1 h1 (zk h2 (zau (zdd.ok ht n _ _ _ _ _ h3) ob)))) (by kernel_rfl)) (zct.okL ht n k _ _ _ _ _ h)
   ·cases h
    exact zx (path (zG (zo zh.zl (l:=a1)) (za1 h1 (zk h2 ob))) (by kernel_rfl)) (fun h=>by cases h)
  ·cases h
   exact zx (path (zG (zo zh.zl (l:=a1)) (za1 h1 (zk (rfl:false=false) ob))) (by kernel_rfl)) (fun h=>by cases h)
theorem zdr.ok {n:Nat} {t:Tab} (ht:TabOk t (run Tryd.prog own kp X n)):∀(p1:List zh) (p2:Int) r,zdr t n p1 p2=some r→run Tryd.prog own kp X (n+1) 46 [(Sl 5 (zh.ts p1)),(I6 p2)] []=some ((I6 r),[]):=by
 intro p1 p2 r h
 obtain⟨a1,rfl⟩:∃z_,z_=p1:=⟨_,rfl⟩
 obtain⟨a2,rfl⟩:∃z_,z_=p2:=⟨_,rfl⟩
 rw[zdr]at h
 obtain⟨⟨a3,a4,a5,a6,a7⟩,h1,h⟩:=sm h
 cases h
 exact zi Tryd.func46 (zbj (lk (sub [1,1,0,1,0] (zt Tryd.f46)) (by kernel_rfl) (zct.okL ht n n _ _ _ _ _ h1)) ob) (by kernel_rfl)
theorem zb2.ok (ht:TabOk t call) (n:Nat) (a1 a2 a3:Int) (a4 a5:List GStep) (a6 a7:Int) (a8:List (List GStep)) (a9 a10:Int) (a11:Bool) (r:_) (h:zb2 t n a1 a2 a3 a4 a5 a6 a7 a8 a9 a10 a11=some r):exec (env Tryd.prog 47 Tryd.f47 call) n (sub [1,1,0,1,0,0,1,1,0,0,1,1,1,0,0,1,1,0,0,1,1] (zt Tryd.f47)) (mkSt 50 50 [(1,(I6 a1)),(2,(I6 a2)),(7,(I6 a3)),(11,(Sl 14 (GStep.ts a4))),(12,(Sl 14 (GStep.ts a5))),(13,(I6 a6)),(14,(I6 a7)),(25,(Sl 1 (zq a8))),(26,(I6 a9)),(27,(I6 a10)),(37,(Bo a11))] [])=some (zb2.to r):=by
 rw[zb2]at h
 rcases fk h with ⟨h1,h⟩ | ⟨h1,h⟩
 ·obtain⟨a12,h2,h⟩:=sm h
  cases h
  exact path (zk h1 (zaa (ht.zco _ _ _ _ h2) ob)) (by kernel_rfl)
 ·cases h
  exact path (zk h1 ob) (by kernel_rfl)
theorem zaZ.okL (ht:TabOk t call) (n:Nat):∀(k:Nat) (a1 a2 a3:Int) (a4:List GStep) (a5 a6:Int) (a7:List (List GStep)) (a8 a9:Int) (r:_),zaZ t n k a1 a2 a3 a4 a5 a6 a7 a8 a9=some r→loopN (exec (env Tryd.prog 47 Tryd.f47 call) n (sub [1,1,0,1,0,0,1,1,0,0,1,1,1,0,0] (zt Tryd.f47))) k (mkSt 50 50 [(1,(I6 a1)),(2,(I6 a2)),(7,(I6 a3)),(12,(Sl 14 (GStep.ts a4))),(13,(I6 a5)),(14,(I6 a6)),(25,(Sl 1 (zq a7))),(26,(I6 a8)),(27,(I6 a9))] [])=some (zaZ.to r)
 | 0,a1,a2,a3,a4,a5,a6,a7,a8,a9,r,h=>by rw[zaZ]at h;cases h
 | k+1,a1,a2,a3,a4,a5,a6,a7,a8,a9,r,h=>by
  rw[zaZ]at h
  rcases fk h with ⟨h1,h⟩ | ⟨h1,h⟩
  ·obtain⟨h2,h⟩:=ck h
   obtain⟨a10,h3,h⟩:=sm h
   rcases fk h with ⟨h4,h⟩ | ⟨h4,h⟩
   ·obtain⟨⟨a11,a12,a13,a14,a15,a16,a17,a18,a19⟩,h5,h⟩:=sm h
    exact zM (path (zk h1 (zaq h2 (zan (zu zy h3) (za1 h4 (zau (zb2.ok ht n _ _ _ _ _ _ _ _ _ _ _ _ h5) ob))))) (by kernel_rfl)) (zaZ.okL ht n k _ _ _ _ _ _ _ _ _ _ h)
   ·obtain⟨⟨a20,a21,a22,a23,a24,a25,a26,a27,a28⟩,h6,h⟩:=sm h
    exact zM (path (zk h1 (zaq h2 (zan (zu zy h3) (za1 h4 (zau (zb2.ok ht n _ _ _ _ _ _ _ _ _ _ _ _ h6) ob))))) (by kernel_rfl)) (zaZ.okL ht n k _ _ _ _ _ _ _ _ _ _ h)
  ·cases h
   exact zx (path (zk h1 ob) (by kernel_rfl)) (fun h=>by cases h)
theorem zbe.okL (ht:TabOk t call) (n:Nat):∀(k:Nat) (a1 a2 a3:Int) (a4:List GStep) (a5 a6:Int) (r:_),zbe t n k a1 a2 a3 a4 a5 a6=some r→loopN (exec (env Tryd.prog 47 Tryd.f47 call) n (sub [1,1,0,1,0,0] (zt Tryd.f47))) k (mkSt 50 50 [(1,(I6 a1)),(2,(I6 a2)),(7,(I6 a3)),(12,(Sl 14 (GStep.ts a4))),(13,(I6 a5)),(14,(I6 a6))] [])=some (zbe.to r)
 | 0,a1,a2,a3,a4,a5,a6,r,h=>by rw[zbe]at h;cases h
 | k+1,a1,a2,a3,a4,a5,a6,r,h=>by
  rw[zbe]at h
  rcases fk h with ⟨h1,h⟩ | ⟨h1,h⟩
  ·obtain⟨h2,h⟩:=ck h
   obtain⟨⟨a7,a8,a9,⟨a10,a11,a12,a13,a14⟩,⟨a15,a16,a17⟩,a18,a19,a20⟩,h3,h⟩:=sm h
   rcases fk h with ⟨h4,h⟩ | ⟨h4,h⟩
   ·cases h
    exact zx (path (zk h1 (zaq h2 (zan (zu GStep.zl h3) (zk h4 ob)))) (by kernel_rfl)) (fun h=>by cases h)
   ·obtain⟨a21,h5,h⟩:=sm h
    obtain⟨⟨a22,a23,a24,a25,a26,a27,a28,a29,a30,a31⟩,h6,h⟩:=sm h
    exact zM (path (zk h1 (zaq h2 (zan (zu GStep.zl h3) (zk h4 (zaa (ht.zdh _ _ h5) (zG (zo zy (l:=a21)) (zbj (lk (sub [1,1,0,1,0,0,1,1,0,0,1,1,1,0] (zt Tryd.f47)) (by kernel_rfl) (zaZ.okL ht n n _ _ _ _ _ _ _ _ _ _ h6)) ob))))))) (by kernel_rfl)) (zbe.okL ht n k _ _ _ _ _ _ _ h)
  ·cases h
   exact zx (path (zk h1 ob) (by kernel_rfl)) (fun h=>by cases h)
theorem zco.ok {n:Nat} {t:Tab} (ht:TabOk t (run Tryd.prog own kp X n)):∀(p1:List GStep) (p2:Int) (p3:Int) r,zco t n p1 p2 p3=some r→run Tryd.prog own kp X (n+1) 47 [(Sl 14 (GStep.ts p1)),(I6 p2),(I6 p3)] []=some ((I6 r),[]):=by
 intro p1 p2 p3 r h
 obtain⟨a1,rfl⟩:∃z_,z_=p1:=⟨_,rfl⟩
 obtain⟨a2,rfl⟩:∃z_,z_=p2:=⟨_,rfl⟩
 obtain⟨a3,rfl⟩:∃z_,z_=p3:=⟨_,rfl⟩
 rw[zco]at h
 obtain⟨a4 | ⟨a5,a6,a7,a8,a9,a10,a11⟩,h1,h⟩:=sm h
 ·cases h
  exact zi Tryd.func47 (zG (zo GStep.zl (l:=a1)) (zbj (lk (sub [1,1,0,1,0] (zt Tryd.f47)) (by kernel_rfl) (zbe.okL ht n n _ _ _ _ _ _ _ h1)) ob)) (by kernel_rfl)
 ·cases h
  exact zi Tryd.func47 (zG (zo GStep.zl (l:=a1)) (zbj (lk (sub [1,1,0,1,0] (zt Tryd.f47)) (by kernel_rfl) (zbe.okL ht n n _ _ _ _ _ _ _ h1)) ob)) (by kernel_rfl)
theorem zO.ok {n:Nat} {t:Tab} (ht:TabOk t (run Tryd.prog own kp X n)):∀(p1:List GStep) (p2:Int) r,zO t n p1 p2=some r→run Tryd.prog own kp X (n+1) 48 [(Sl 14 (GStep.ts p1)),(.fn 49 [(.ref (.v (.int .i64 p2)))])] []=some ((Bo r),[]):=by
 intro p1 p2 r h
 obtain⟨a1,rfl⟩:∃z_,z_=p1:=⟨_,rfl⟩
 obtain⟨a2,rfl⟩:∃z_,z_=p2:=⟨_,rfl⟩
 rw[zO]at h
 obtain⟨a3,h1,h⟩:=sm h
 cases h
 exact zi Tryd.func48 (zaa (ht.zaf _ _ _ h1) ob) (by kernel_rfl)
theorem zcM.ok {n:Nat} {t:Tab} (ht:TabOk t (run Tryd.prog own kp X n)):∀(p1:zh) r,zcM t n p1=some r→run Tryd.prog own kp X (n+1) 53 [(.t (zh.t p1))] []=some ((.t (zh.t r)),[]):=by
 intro p1 r h
 obtain⟨a1,a2,a3,a4,a5⟩:=p1
 rw[zcM]at h
 obtain⟨a6,a7,a8,a9,a10⟩:=r
 have h1:=h
 exact zi Tryd.func53 (zaa (ht.zcN _ _ _ h1) ob) (by kernel_rfl)
theorem zdH.ok {n:Nat} {t:Tab} (ht:TabOk t (run Tryd.prog own kp X n)):∀(p1:GPred) r,zdH t n p1=some r→run Tryd.prog own kp X (n+1) 54 [(.t (GPred.t p1))] []=some ((.t (GPred.t r)),[]):=by
 intro p1 r h
 obtain⟨a1,a2,a3⟩:=p1
 rw[zdH]at h
 obtain⟨a4,a5,a6⟩:=r
 have h1:=h
 exact zi Tryd.func54 (zaa (ht.zc5 _ _ _ h1) ob) (by kernel_rfl)
theorem zcI.okL (ht:TabOk t call) (n:Nat):∀(k:Nat) (a1:Int) (a2 a3:List (List GStep)) (a4 a5:Int) (r:_),zcI t n k a1 a2 a3 a4 a5=some r→loopN (exec (env Tryd.prog 55 Tryd.f55 call) n (sub [1,1,0,1,0,0] (zt Tryd.f55))) k (mkSt 22 22 [(1,(I6 a1)),(5,(.t (.sl true 1 (zq a2)))),(8,(Sl 1 (zq a3))),(9,(I6 a4)),(10,(I6 a5))] [])=some (zcI.to r)
 | 0,a1,a2,a3,a4,a5,r,h=>by rw[zcI]at h;cases h
 | k+1,a1,a2,a3,a4,a5,r,h=>by
  rw[zcI]at h
  rcases fk h with ⟨h1,h⟩ | ⟨h1,h⟩
  ·obtain⟨h2,h⟩:=ck h
   obtain⟨a6,h3,h⟩:=sm h
   obtain⟨a7,h4,h⟩:=sm h
   obtain⟨h5,h⟩:=cl h
   exact zM (path (zk h1 (zaq h2 (zan (zu zy h3) (zaa (ht.za3 _ _ _ h4) (zeT (zdT zy h5) (zfb (zd7 zy (a:=a2) (b:=([a7]:List (List GStep)))) ob)))))) (by kernel_rfl)) (zcI.okL ht n k _ _ _ _ _ _ h)
  ·cases h
   exact zx (path (zk h1 ob) (by kernel_rfl)) (fun h=>by cases h)
theorem zdf.ok {n:Nat} {t:Tab} (ht:TabOk t (run Tryd.prog own kp X n)):∀(p1:List (List GStep)) (p2:Int) r,zdf t n p1 p2=some r→run Tryd.prog own kp X (n+1) 55 [(Sl 1 (zq p1)),(I6 p2)] []=some ((Sl 1 (zq r)),[]):=by
 intro p1 p2 r h
 obtain⟨a1,rfl⟩:∃z_,z_=p1:=⟨_,rfl⟩
 obtain⟨a2,rfl⟩:∃z_,z_=p2:=⟨_,rfl⟩
 rw[zdf]at h
 obtain⟨⟨a3,a4,a5,a6,a7,a8⟩,h1,h⟩:=sm h
 cases h
 exact zi Tryd.func55 (zG (zo zy (l:=a1)) (zbj (lk (sub [1,1,0,1,0] (zt Tryd.f55)) (by kernel_rfl) (zcI.okL ht n n _ _ _ _ _ _ h1)) ob)) (by kernel_rfl)
theorem zX.okL (ht:TabOk t call) (n:Nat):∀(k:Nat) (a1 a2:List GCode) (a3 a4:Int) (r:_),zX t n k a1 a2 a3 a4=some r→loopN (exec (env Tryd.prog 23 Tryd.f23 call) n (sub [1,1,0,1,0,0] (zt Tryd.f23))) k (mkSt 32 32 [(1,(Sl 14 (GCode.ts a1))),(2,(.fn 24 [])),(15,(Sl 14 (GCode.ts a2))),(16,(I6 a3)),(17,(I6 a4))] [])=some (zX.to r)
 | 0,a1,a2,a3,a4,r,h=>by rw[zX]at h;cases h
 | k+1,a1,a2,a3,a4,r,h=>by
  rw[zX]at h
  rcases fk h with ⟨h1,h⟩ | ⟨h1,h⟩
  ·obtain⟨h2,h⟩:=ck h
   obtain⟨⟨a5,a6,a7,⟨a8,a9,a10,a11,a12⟩,⟨a13,a14,a15⟩,a16,a17,a18⟩,h3,h⟩:=sm h
   obtain⟨⟨a19,a20,a21,⟨a22,a23,a24,a25,a26⟩,⟨a27,a28,a29⟩,a30,a31,a32⟩,h4,h⟩:=sm h
   obtain⟨a33,h5,h⟩:=sm h
   rcases fk h with ⟨h6,h⟩ | ⟨h6,h⟩
   ·exact zM (path (zk h1 (zaq h2 (zan (zu GCode.zl h3) (zaq h2 (zan (zu GCode.zl h4) (zaa (ht.zc0 _ _ _ h5) (zk (ng h6) ob))))))) (by kernel_rfl)) (zX.okL ht n k _ _ _ _ _ h)
   ·cases h
    exact zx (path (zk h1 (zaq h2 (zan (zu GCode.zl h3) (zaq h2 (zan (zu GCode.zl h4) (zaa (ht.zc0 _ _ _ h5) (zk (ng h6) ob))))))) (by kernel_rfl)) (fun h=>by cases h)
  ·cases h
   exact zx (path (zk h1 ob) (by kernel_rfl)) (fun h=>by cases h)
theorem zaj.ok {n:Nat} {t:Tab} (ht:TabOk t (run Tryd.prog own kp X n)):∀(p1:List GCode) (p2:List GCode) r,zaj t n p1 p2=some r→run Tryd.prog own kp X (n+1) 23 [(Sl 14 (GCode.ts p1)),(Sl 14 (GCode.ts p2)),(.fn 24 [])] []=some ((Bo r),[]):=by
 intro p1 p2 r h
 obtain⟨a1,rfl⟩:∃z_,z_=p1:=⟨_,rfl⟩
 obtain⟨a2,rfl⟩:∃z_,z_=p2:=⟨_,rfl⟩
 rw[zaj]at h
 rcases fk h with ⟨h1,h⟩ | ⟨h1,h⟩
 ·cases h
  exact zi Tryd.func23 (zG (zo GCode.zl (l:=a1)) (zG (zo GCode.zl (l:=a2)) (zk h1 ob))) (by kernel_rfl)
 ·obtain⟨a3 | ⟨a4,a5,a6,a7,a8⟩,h2,h⟩:=sm h
  ·cases h
   exact zi Tryd.func23 (zG (zo GCode.zl (l:=a1)) (zG (zo GCode.zl (l:=a2)) (zk h1 (zG (zo GCode.zl (l:=a1)) (zbj (lk (sub [1,1,0,1,0] (zt Tryd.f23)) (by kernel_rfl) (zX.okL ht n n _ _ _ _ _ h2)) ob))))) (by kernel_rfl)
  ·cases h
   exact zi Tryd.func23 (zG (zo GCode.zl (l:=a1)) (zG (zo GCode.zl (l:=a2)) (zk h1 (zG (zo GCode.zl (l:=a1)) (zbj (lk (sub [1,1,0,1,0] (zt Tryd.f23)) (by kernel_rfl) (zX.okL ht n n _ _ _ _ _ h2)) ob))))) (by kernel_rfl)
theorem zbg.ok {n:Nat} {t:Tab} (ht:TabOk t (run Tryd.prog own kp X n)):∀(p1:Int) (p2:Int) r,zbg t n p1 p2=some r→run Tryd.prog own kp X (n+1) 59 [(I6 p1),(I6 p2)] []=some ((I6 r),[]):=by
 intro p1 p2 r h
 obtain⟨a1,rfl⟩:∃z_,z_=p1:=⟨_,rfl⟩
 obtain⟨a2,rfl⟩:∃z_,z_=p2:=⟨_,rfl⟩
 rw[zbg]at h
 rcases fk h with ⟨h1,h⟩ | ⟨h1,h⟩
 ·cases h
  exact zi Tryd.func59 (zk h1 ob) (by kernel_rfl)
 ·rcases fk h with ⟨h2,h⟩ | ⟨h2,h⟩
  ·cases h
   exact zi Tryd.func59 (zk h1 (zk h2 ob)) (by kernel_rfl)
  ·cases h
   exact zi Tryd.func59 (zk h1 (zk h2 ob)) (by kernel_rfl)
theorem zcC.ok (ht:TabOk t call) (n:Nat) (a1 a2:ByteArray) (a3:Int) (r:_) (h:zcC t n a1 a2 a3=some r):exec (env Tryd.prog 60 Tryd.f60 call) n (sub [1,0,1,0,0,1] (zt Tryd.f60)) (mkSt 39 39 [(0,(Sr a1)),(1,(Sr a2)),(5,(I6 a3))] [])=some (zcC.to r):=by
 rw[zcC]at h
 obtain⟨a4,h1,h⟩:=sm h
 obtain⟨a5,h2,h⟩:=sm h
 rcases fk h with ⟨h3,h⟩ | ⟨h3,h⟩
 ·obtain⟨a6,h4,h⟩:=sm h
  cases h
  exact path (zG (zif (P:=Tryd.prog) (t:=9) (k:=.i64) (by kernel_rfl) h1) (zG (zif (P:=Tryd.prog) (t:=9) (k:=.i64) (by kernel_rfl) h2) (zk h3 (zG (zif (P:=Tryd.prog) (t:=9) (k:=.i64) (by kernel_rfl) h1) (zG (zif (P:=Tryd.prog) (t:=9) (k:=.i64) (by kernel_rfl) h2) (zaa (ht.zbg _ _ _ h4) ob)))))) (by kernel_rfl)
 ·cases h
  exact path (zG (zif (P:=Tryd.prog) (t:=9) (k:=.i64) (by kernel_rfl) h1) (zG (zif (P:=Tryd.prog) (t:=9) (k:=.i64) (by kernel_rfl) h2) (zk h3 ob))) (by kernel_rfl)
theorem zby.okL (ht:TabOk t call) (n:Nat):∀(k:Nat) (a1 a2:ByteArray) (a3:Int) (r:_),zby t n k a1 a2 a3=some r→loopN (exec (env Tryd.prog 60 Tryd.f60 call) n (sub [1,0,1,0,0] (zt Tryd.f60))) k (mkSt 39 39 [(0,(Sr a1)),(1,(Sr a2)),(5,(I6 a3))] [])=some (zby.to r)
 | 0,a1,a2,a3,r,h=>by rw[zby]at h;cases h
 | k+1,a1,a2,a3,r,h=>by
  rw[zby]at h
  rcases fk h with ⟨h1,h⟩ | ⟨h1,h⟩
  ·rcases fk h with ⟨h2,h⟩ | ⟨h2,h⟩
   ·obtain⟨a4 | ⟨a5,a6,a7⟩,h3,h⟩:=sm h
    ·cases h
     exact zx (path (zax h1 5 (zk h2 (zau (zcC.ok ht n _ _ _ _ h3) ob))) (by kernel_rfl)) (fun h=>by cases h)
    ·exact zM (path (zax h1 5 (zk h2 (zau (zcC.ok ht n _ _ _ _ h3) ob))) (by kernel_rfl)) (zby.okL ht n k _ _ _ _ h)
   ·cases h
    exact zx (path (zax h1 5 (zk h2 ob)) (by kernel_rfl)) (fun h=>by cases h)
  ·cases h
   exact zx (path (zax h1 5 (zk (rfl:false=false) ob)) (by kernel_rfl)) (fun h=>by cases h)
theorem zdG.ok (ht:TabOk t call) (n:Nat) (a1 a2:ByteArray) (r:_) (h:zdG t n a1 a2=some r):exec (env Tryd.prog 60 Tryd.f60 call) n (sub [1,1] (zt Tryd.f60)) (mkSt 39 39 [(0,(Sr a1)),(1,(Sr a2))] [])=some (zdG.to r):=by
 rw[zdG]at h
 obtain⟨a3,rfl⟩:∃z_,z_=r:=⟨_,rfl⟩
 have h1:=h
 exact path (zaa (ht.zbg _ _ _ h1) ob) (by kernel_rfl)
theorem zdj.ok {n:Nat} {t:Tab} (ht:TabOk t (run Tryd.prog own kp X n)):∀(p1:ByteArray) (p2:ByteArray) r,zdj t n p1 p2=some r→run Tryd.prog own kp X (n+1) 60 [(Sr p1),(Sr p2)] []=some ((I6 r),[]):=by
 intro p1 p2 r h
 obtain⟨a1,rfl⟩:∃z_,z_=p1:=⟨_,rfl⟩
 obtain⟨a2,rfl⟩:∃z_,z_=p2:=⟨_,rfl⟩
 rw[zdj]at h
 obtain⟨a3 | ⟨a4,a5,a6,a7⟩,h1,h⟩:=sm h
 ·cases h
  exact zi Tryd.func60 (zbj (lk (sub [1,0,1,0] (zt Tryd.f60)) (by kernel_rfl) (zby.okL ht n n _ _ _ _ h1)) ob) (by kernel_rfl)
 ·obtain⟨a8,rfl⟩:∃z_,z_=r:=⟨_,rfl⟩
  have h2:=h
  exact zi Tryd.func60 (zbj (lk (sub [1,0,1,0] (zt Tryd.f60)) (by kernel_rfl) (zby.okL ht n n _ _ _ _ h1)) (zau (zdG.ok ht n _ _ _ h2) ob)) (by kernel_rfl)
theorem zc2.ok (ht:TabOk t call) (n:Nat) (a1 a2:List zh) (a3 a4:Int) (r:_) (h:zc2 t n a1 a2 a3 a4=some r):exec (env Tryd.prog 61 Tryd.f61 call) n (sub [1,0,1,0,0,1] (zt Tryd.f61)) (mkSt 39 39 [(0,(Sl 5 (zh.ts a1))),(1,(Sl 5 (zh.ts a2))),(2,(I6 a3)),(7,(I6 a4))] [])=some (zc2.to r):=by
 rw[zc2]at h
 obtain⟨h1,h⟩:=ck h
 obtain⟨⟨a5,a6,a7,a8,a9⟩,h2,h⟩:=sm h
 obtain⟨⟨a10,a11,a12,a13,a14⟩,h3,h⟩:=sm h
 obtain⟨a15,h4,h⟩:=sm h
 rcases fk h with ⟨h5,h⟩ | ⟨h5,h⟩
 ·cases h
  exact path (zaq h1 (zan (zu zh.zl h2) (zaq h1 (zan (zu zh.zl h3) (zaa (ht.zaJ _ _ _ _ h4) (zk h5 ob)))))) (by kernel_rfl)
 ·cases h
  exact path (zaq h1 (zan (zu zh.zl h2) (zaq h1 (zan (zu zh.zl h3) (zaa (ht.zaJ _ _ _ _ h4) (zk h5 ob)))))) (by kernel_rfl)
theorem zb3.okL (ht:TabOk t call) (n:Nat):∀(k:Nat) (a1 a2:List zh) (a3 a4:Int) (r:_),zb3 t n k a1 a2 a3 a4=some r→loopN (exec (env Tryd.prog 61 Tryd.f61 call) n (sub [1,0,1,0,0] (zt Tryd.f61))) k (mkSt 39 39 [(0,(Sl 5 (zh.ts a1))),(1,(Sl 5 (zh.ts a2))),(2,(I6 a3)),(7,(I6 a4))] [])=some (zb3.to r)
 | 0,a1,a2,a3,a4,r,h=>by rw[zb3]at h;cases h
 | k+1,a1,a2,a3,a4,r,h=>by
  rw[zb3]at h
  rcases fk h with ⟨h1,h⟩ | ⟨h1,h⟩
  ·have o7 {os} (x:Obls (env Tryd.prog 61 Tryd.f61 call) n os):=zG (zo zh.zl (l:=a1)) (zV h1 (zG (zo zh.zl (l:=a2)) (zaG h1 x)))
   rcases fk h with ⟨h2,h⟩ | ⟨h2,h⟩
   ·obtain⟨a5 | ⟨a6,a7,a8,a9⟩,h3,h⟩:=sm h
    ·cases h
     exact zx (path (o7 (zk h2 (zau (zc2.ok ht n _ _ _ _ _ h3) ob))) (by kernel_rfl)) (fun h=>by cases h)
    ·exact zM (path (o7 (zk h2 (zau (zc2.ok ht n _ _ _ _ _ h3) ob))) (by kernel_rfl)) (zb3.okL ht n k _ _ _ _ _ h)
   ·cases h
    exact zx (path (o7 (zk h2 ob)) (by kernel_rfl)) (fun h=>by cases h)
  ·cases h
   exact zx (path (zG (zo zh.zl (l:=a1)) (zax h1 5 (zk (rfl:false=false) ob))) (by kernel_rfl)) (fun h=>by cases h)
theorem zdL.ok (ht:TabOk t call) (n:Nat) (a1 a2:List zh) (r:_) (h:zdL t n a1 a2=some r):exec (env Tryd.prog 61 Tryd.f61 call) n (sub [1,1] (zt Tryd.f61)) (mkSt 39 39 [(0,(Sl 5 (zh.ts a1))),(1,(Sl 5 (zh.ts a2)))] [])=some (zdL.to r):=by
 rw[zdL]at h
 obtain⟨a3,rfl⟩:∃z_,z_=r:=⟨_,rfl⟩
 have h1:=h
 exact path (zG (zo zh.zl (l:=a1)) (zG (zo zh.zl (l:=a2)) (zaa (ht.zbg _ _ _ h1) ob))) (by kernel_rfl)
theorem zdg.ok {n:Nat} {t:Tab} (ht:TabOk t (run Tryd.prog own kp X n)):∀(p1:List zh) (p2:List zh) (p3:Int) r,zdg t n p1 p2 p3=some r→run Tryd.prog own kp X (n+1) 61 [(Sl 5 (zh.ts p1)),(Sl 5 (zh.ts p2)),(I6 p3)] []=some ((I6 r),[]):=by
 intro p1 p2 p3 r h
 obtain⟨a1,rfl⟩:∃z_,z_=p1:=⟨_,rfl⟩
 obtain⟨a2,rfl⟩:∃z_,z_=p2:=⟨_,rfl⟩
 obtain⟨a3,rfl⟩:∃z_,z_=p3:=⟨_,rfl⟩
 rw[zdg]at h
 obtain⟨a4 | ⟨a5,a6,a7,a8,a9⟩,h1,h⟩:=sm h
 ·cases h
  exact zi Tryd.func61 (zbj (lk (sub [1,0,1,0] (zt Tryd.f61)) (by kernel_rfl) (zb3.okL ht n n _ _ _ _ _ h1)) ob) (by kernel_rfl)
 ·obtain⟨a10,rfl⟩:∃z_,z_=r:=⟨_,rfl⟩
  have h2:=h
  exact zi Tryd.func61 (zbj (lk (sub [1,0,1,0] (zt Tryd.f61)) (by kernel_rfl) (zb3.okL ht n n _ _ _ _ _ h1)) (zau (zdL.ok ht n _ _ _ h2) ob)) (by kernel_rfl)
theorem zb4.ok (ht:TabOk t call) (n:Nat) (a1:List (List GStep)) (a2:List GBy) (a3 a4:Int) (a5:Bool) (a6:Int) (a7:ByteArray) (a8:List GStep) (a9:Bool) (r:_) (h:zb4 t n a1 a2 a3 a4 a5 a6 a7 a8 a9=some r):exec (env Tryd.prog 62 Tryd.f62 call) n (sub [1,1,0,1,0,0,1,1,0,0,1,1] (zt Tryd.f62)) (mkSt 32 32 [(3,(.t (.sl true 1 (zq a1)))),(5,(.ptr 5 0 [] 0)),(10,(Sl 4 (GBy.ts a2))),(11,(I6 a3)),(12,(I6 a4)),(24,(Bo a5))] [(5,(.t (.st [(.v (.int .i64 a6)),(.v (.string a7)),(.sl false 14 (GStep.ts a8)),(.v (.bool a9))])))])=some (zb4.to r):=by
 rw[zb4]at h
 rcases fk h with ⟨h1,h⟩ | ⟨h1,h⟩
 ·obtain⟨h2,h⟩:=cl h
  cases h
  exact path (zk h1 (zeT (zdT zy h2) (zfb (zd7 zy (a:=a1) (b:=([a8]:List (List GStep)))) ob))) (by kernel_rfl)
 ·cases h
  exact path (zk h1 ob) (by kernel_rfl)
theorem zb5.okL (ht:TabOk t call) (n:Nat):∀(k:Nat) (a1:List (List GStep)) (a2:List GBy) (a3 a4:Int) (r:_),zb5 t n k a1 a2 a3 a4=some r→loopN (exec (env Tryd.prog 62 Tryd.f62 call) n (sub [1,1,0,1,0,0] (zt Tryd.f62))) k (mkSt 32 32 [(3,(.t (.sl true 1 (zq a1)))),(10,(Sl 4 (GBy.ts a2))),(11,(I6 a3)),(12,(I6 a4))] [])=some (zb5.to r)
 | 0,a1,a2,a3,a4,r,h=>by rw[zb5]at h;cases h
 | k+1,a1,a2,a3,a4,r,h=>by
  rw[zb5]at h
  rcases fk h with ⟨h1,h⟩ | ⟨h1,h⟩
  ·obtain⟨h2,h⟩:=ck h
   obtain⟨⟨a5,a6,a7,a8⟩,h3,h⟩:=sm h
   rcases fk h with ⟨h4,h⟩ | ⟨h4,h⟩
   ·obtain⟨⟨a9,a10,a11,a12⟩,h5,h⟩:=sm h
    exact zM (path (zk h1 (zaq h2 (zan (zu GBy.zl h3) (zax h4 5 (zau (zb4.ok ht n _ _ _ _ _ _ _ _ _ _ h5) ob))))) (by kernel_rfl)) (zb5.okL ht n k _ _ _ _ _ h)
   ·obtain⟨⟨a13,a14,a15,a16⟩,h6,h⟩:=sm h
    exact zM (path (zk h1 (zaq h2 (zan (zu GBy.zl h3) (zV h4 (zG (zo GStep.zl (l:=a7)) (zaG h4 (zau (zb4.ok ht n _ _ _ _ _ _ _ _ _ _ h6) ob))))))) (by kernel_rfl)) (zb5.okL ht n k _ _ _ _ _ h)
  ·cases h
   exact zx (path (zk h1 ob) (by kernel_rfl)) (fun h=>by cases h)
theorem zdh.ok {n:Nat} {t:Tab} (ht:TabOk t (run Tryd.prog own kp X n)):∀(p1:GStep) r,zdh t n p1=some r→run Tryd.prog own kp X (n+1) 62 [(.t (GStep.t p1))] []=some ((Sl 1 (zq r)),[]):=by
 intro p1 r h
 obtain⟨a1,a2,a3,⟨a4,a5,a6,a7,a8⟩,⟨a9,a10,a11⟩,a12,a13,a14⟩:=p1
 rw[zdh]at h
 obtain⟨a15,h1,h⟩:=sm h
 obtain⟨⟨a16,a17,a18,a19,a20⟩,h2,h⟩:=sm h
 cases h
 exact zi Tryd.func62 (zaa (ht.zdV _ _ h1) (zG (zo GBy.zl (l:=a13)) (zbj (lk (sub [1,1,0,1,0] (zt Tryd.f62)) (by kernel_rfl) (zb5.okL ht n n _ _ _ _ _ h2)) ob))) (by kernel_rfl)
theorem zP.okL (ht:TabOk t call) (n:Nat):∀(k:Nat) (a1:List GStep) (a2 a3 a4:Int) (r:_),zP t n k a1 a2 a3 a4=some r→loopN (exec (env Tryd.prog 63 Tryd.f63 call) n (sub [1,0,1,0,0] (zt Tryd.f63))) k (mkSt 19 19 [(0,(Sl 14 (GStep.ts a1))),(1,(.fn 49 [(.ref (.v (.int .i64 a2)))])),(7,(I6 a3)),(8,(I6 a4))] [])=some (zP.to r)
 | 0,a1,a2,a3,a4,r,h=>by rw[zP]at h;cases h
 | k+1,a1,a2,a3,a4,r,h=>by
  rw[zP]at h
  rcases fk h with ⟨h1,h⟩ | ⟨h1,h⟩
  ·obtain⟨h2,h⟩:=ck h
   obtain⟨⟨a5,a6,a7,⟨a8,a9,a10,a11,a12⟩,⟨a13,a14,a15⟩,a16,a17,a18⟩,h3,h⟩:=sm h
   obtain⟨a19,h4,h⟩:=sm h
   rcases fk h with ⟨h5,h⟩ | ⟨h5,h⟩
   ·cases h
    exact zx (path (zk h1 (zaq h2 (zan (zu GStep.zl h3) (zaa (ht.zbP _ _ _ h4) (zk h5 ob))))) (by kernel_rfl)) (fun h=>by cases h)
   ·exact zM (path (zk h1 (zaq h2 (zan (zu GStep.zl h3) (zaa (ht.zbP _ _ _ h4) (zk h5 ob))))) (by kernel_rfl)) (zP.okL ht n k _ _ _ _ _ h)
  ·cases h
   exact zx (path (zk h1 ob) (by kernel_rfl)) (fun h=>by cases h)
theorem zaf.ok {n:Nat} {t:Tab} (ht:TabOk t (run Tryd.prog own kp X n)):∀(p1:List GStep) (p2:Int) r,zaf t n p1 p2=some r→run Tryd.prog own kp X (n+1) 63 [(Sl 14 (GStep.ts p1)),(.fn 49 [(.ref (.v (.int .i64 p2)))])] []=some ((I6 r),[]):=by
 intro p1 p2 r h
 obtain⟨a1,rfl⟩:∃z_,z_=p1:=⟨_,rfl⟩
 obtain⟨a2,rfl⟩:∃z_,z_=p2:=⟨_,rfl⟩
 rw[zaf]at h
 obtain⟨a3 | ⟨a4,a5,a6,a7,a8⟩,h1,h⟩:=sm h
 ·cases h
  exact zi Tryd.func63 (zG (zo GStep.zl (l:=a1)) (zbj (lk (sub [1,0,1,0] (zt Tryd.f63)) (by kernel_rfl) (zP.okL ht n n _ _ _ _ _ h1)) ob)) (by kernel_rfl)
 ·cases h
  exact zi Tryd.func63 (zG (zo GStep.zl (l:=a1)) (zbj (lk (sub [1,0,1,0] (zt Tryd.f63)) (by kernel_rfl) (zP.okL ht n n _ _ _ _ _ h1)) ob)) (by kernel_rfl)
theorem zcN.ok {n:Nat} {t:Tab} (ht:TabOk t (run Tryd.prog own kp X n)):∀(p1:zh) (p2:Int) r,zcN t n p1 p2=some r→run Tryd.prog own kp X (n+1) 76 [(.t (zh.t p1)),(I6 p2)] []=some ((.t (zh.t r)),[]):=by
 intro p1 p2 r h
 obtain⟨a1,a2,a3,a4,a5⟩:=p1
 obtain⟨a6,rfl⟩:∃z_,z_=p2:=⟨_,rfl⟩
 rw[zcN]at h
 rcases fk h with ⟨h1,h⟩ | ⟨h1,h⟩
 ·cases h
  exact zi Tryd.func76 (zk h1 ob) (by kernel_rfl)
 ·obtain⟨a7,h2,h⟩:=sm h
  obtain⟨a8,h3,h⟩:=sm h
  cases h
  exact zi Tryd.func76 (zk h1 (zaa (ht.zcb _ _ _ h2) (zaa (ht.zcb _ _ _ h3) ob))) (by kernel_rfl)
theorem zc3.okL (ht:TabOk t call) (n:Nat):∀(k:Nat) (a1:Int) (a2:List zh) (a3 a4 a5:Int) (a6:List zh) (a7:List GPred) (a8:Int) (a9:List zh) (a10:List GPred) (a11:Int) (a12:List zh) (a13:List GPred) (r:_),zc3 t n k a1 a2 a3 a4 a5 a6 a7 a8 a9 a10 a11 a12 a13=some r→loopN (exec (env Tryd.prog 77 Tryd.f77 call) n (sub [1,1,1,0,1,0,0] (zt Tryd.f77))) k (mkSt 49 49 [(1,(I6 a1)),(2,(.ptr 2 0 [] 0)),(4,(.ptr 4 0 [] 0)),(5,(.ptr 5 0 [] 0)),(17,(Sl 5 (zh.ts a2))),(18,(I6 a3)),(19,(I6 a4))] [(2,(.t (.st [(.v (.int .i64 a5)),(.sl false 5 (zh.ts a6)),(.sl false 3 (GPred.ts a7))]))),(4,(.t (.st [(.v (.int .i64 a8)),(.sl false 5 (zh.ts a9)),(.sl false 3 (GPred.ts a10))]))),(5,(.t (.st [(.v (.int .i64 a11)),(.sl true 5 (zh.ts a12)),(.sl true 3 (GPred.ts a13))])))])=some (zc3.to r)
 | 0,a1,a2,a3,a4,a5,a6,a7,a8,a9,a10,a11,a12,a13,r,h=>by rw[zc3]at h;cases h
 | k+1,a1,a2,a3,a4,a5,a6,a7,a8,a9,a10,a11,a12,a13,r,h=>by
  rw[zc3]at h
  rcases fk h with ⟨h1,h⟩ | ⟨h1,h⟩
  ·obtain⟨h2,h⟩:=ck h
   obtain⟨⟨a14,a15,a16,a17,a18⟩,h3,h⟩:=sm h
   obtain⟨⟨a19,a20,a21,a22,a23⟩,h4,h⟩:=sm h
   obtain⟨h5,h⟩:=cl h
   exact zM (path (zk h1 (zaq h2 (zan (zu zh.zl h3) (zaa (ht.zcM _ _ h4) (zeT (zdT zh.zl h5) (zfb (zd7 zh.zl (a:=a12) (b:=([(zh.mk a19 a20 a21 a22 a23)]:List zh))) ob)))))) (by kernel_rfl)) (zc3.okL ht n k _ _ _ _ _ _ _ _ _ _ _ _ _ _ h)
  ·cases h
   exact zx (path (zk h1 ob) (by kernel_rfl)) (fun h=>by cases h)
theorem zc4.okL (ht:TabOk t call) (n:Nat):∀(k:Nat) (a1:Int) (a2:List GPred) (a3 a4 a5:Int) (a6:List zh) (a7:List GPred) (a8:Int) (a9:List zh) (a10:List GPred) (r:_),zc4 t n k a1 a2 a3 a4 a5 a6 a7 a8 a9 a10=some r→loopN (exec (env Tryd.prog 77 Tryd.f77 call) n (sub [1,1,1,1,0,1,0,0] (zt Tryd.f77))) k (mkSt 49 49 [(1,(I6 a1)),(4,(.ptr 4 0 [] 0)),(5,(.ptr 5 0 [] 0)),(32,(Sl 3 (GPred.ts a2))),(33,(I6 a3)),(34,(I6 a4))] [(4,(.t (.st [(.v (.int .i64 a5)),(.sl false 5 (zh.ts a6)),(.sl false 3 (GPred.ts a7))]))),(5,(.t (.st [(.v (.int .i64 a8)),(.sl true 5 (zh.ts a9)),(.sl true 3 (GPred.ts a10))])))])=some (zc4.to r)
 | 0,a1,a2,a3,a4,a5,a6,a7,a8,a9,a10,r,h=>by rw[zc4]at h;cases h
 | k+1,a1,a2,a3,a4,a5,a6,a7,a8,a9,a10,r,h=>by
  rw[zc4]at h
  rcases fk h with ⟨h1,h⟩ | ⟨h1,h⟩
  ·obtain⟨h2,h⟩:=ck h
   obtain⟨⟨a11,a12,a13⟩,h3,h⟩:=sm h
   obtain⟨⟨a14,a15,a16⟩,h4,h⟩:=sm h
   obtain⟨h5,h⟩:=cl h
   exact zM (path (zk h1 (zaq h2 (zan (zu GPred.zl h3) (zaa (ht.zc5 _ _ _ h4) (zeT (zdT GPred.zl h5) (zfb (zd7 GPred.zl (a:=a10) (b:=([(GPred.mk a14 a15 a16)]:List GPred))) ob)))))) (by kernel_rfl)) (zc4.okL ht n k _ _ _ _ _ _ _ _ _ _ _ h)
  ·cases h
   exact zx (path (zk h1 ob) (by kernel_rfl)) (fun h=>by cases h)
theorem zds.ok (ht:TabOk t call) (n:Nat) (a1 a2:Int) (a3:List zh) (a4:List GPred) (a5:Int) (a6:List zh) (a7:List GPred) (a8:Int) (a9:List zh) (a10:List GPred) (r:_) (h:zds t n a1 a2 a3 a4 a5 a6 a7 a8 a9 a10=some r):exec (env Tryd.prog 77 Tryd.f77 call) n (sub [1,1,1,1] (zt Tryd.f77)) (mkSt 49 49 [(1,(I6 a1)),(2,(.ptr 2 0 [] 0)),(4,(.ptr 4 0 [] 0)),(5,(.ptr 5 0 [] 0))] [(2,(.t (.st [(.v (.int .i64 a2)),(.sl false 5 (zh.ts a3)),(.sl false 3 (GPred.ts a4))]))),(4,(.t (.st [(.v (.int .i64 a5)),(.sl false 5 (zh.ts a6)),(.sl false 3 (GPred.ts a7))]))),(5,(.t (.st [(.v (.int .i64 a8)),(.sl true 5 (zh.ts a9)),(.sl true 3 (GPred.ts a10))])))])=some (zds.to r):=by
 rw[zds]at h
 obtain⟨⟨a11,a12,a13,a14,a15,a16,a17,a18,a19,a20,a21⟩,h1,h⟩:=sm h
 cases h
 exact path (zG (zo GPred.zl (l:=a4)) (zbj (lk (sub [1,1,1,1,0,1,0] (zt Tryd.f77)) (by kernel_rfl) (zc4.okL ht n n _ _ _ _ _ _ _ _ _ _ _ h1)) ob)) (by kernel_rfl)
theorem zc5.ok {n:Nat} {t:Tab} (ht:TabOk t (run Tryd.prog own kp X n)):∀(p1:GPred) (p2:Int) r,zc5 t n p1 p2=some r→run Tryd.prog own kp X (n+1) 77 [(.t (GPred.t p1)),(I6 p2)] []=some ((.t (GPred.t r)),[]):=by
 intro p1 p2 r h
 obtain⟨a1,a2,a3⟩:=p1
 obtain⟨a4,rfl⟩:∃z_,z_=p2:=⟨_,rfl⟩
 rw[zc5]at h
 rcases fk h with ⟨h1,h⟩ | ⟨h1,h⟩
 ·cases h
  exact zi Tryd.func77 (zk h1 ob) (by kernel_rfl)
 ·obtain⟨⟨a5,a6,a7,a8,a9,a10,a11,a12,a13,a14,a15,a16,a17,a18⟩,h2,h⟩:=sm h
  obtain⟨⟨a19,a20,a21⟩,h3,h⟩:=sm h
  cases h
  exact zi Tryd.func77 (zk h1 (zG (zo zh.zl (l:=a2)) (zbj (lk (sub [1,1,1,0,1,0] (zt Tryd.f77)) (by kernel_rfl) (zc3.okL ht n n _ _ _ _ _ _ _ _ _ _ _ _ _ _ h2)) (zau (zds.ok ht n _ _ _ _ _ _ _ _ _ _ _ h3) ob)))) (by kernel_rfl)
theorem zcu.ok (ht:TabOk t call) (n:Nat) (a1:Bool) (u2 u3:GCode) (r:_) (h:zcu t n a1 u2 u3=some r):exec (env Tryd.prog 24 Tryd.f24 call) n (sub [1,1] (zt Tryd.f24)) (mkSt 61 61 [(2,(.ptr 2 0 [] 0)),(3,(.ptr 3 0 [] 0)),(5,(Bo a1))] [(2,(.t (GCode.t u2))),(3,(.t (GCode.t u3)))])=some (zcu.to r):=by
 obtain⟨a2,a3,a4,⟨a5,a6,a7,a8,a9⟩,⟨a10,a11,a12⟩,a13,a14,a15⟩:=u2
 obtain⟨a16,a17,a18,⟨a19,a20,a21,a22,a23⟩,⟨a24,a25,a26⟩,a27,a28,a29⟩:=u3
 rw[zcu]at h
 rcases fk h with ⟨h1,h⟩ | ⟨h1,h⟩
 ·obtain⟨a30,h2,h⟩:=sm h
  have o7 {os} (x:Obls (env Tryd.prog 24 Tryd.f24 call) n os):=zax h1 5 (zaa (ht.slices_Equal_int _ _ _ h2) (zk h1 x))
  rcases fk h with ⟨h3,h⟩ | ⟨h3,h⟩
  ·obtain⟨a31,h4,h⟩:=sm h
   have o14 {os} (x:Obls (env Tryd.prog 24 Tryd.f24 call) n os):=o7 (zax h3 5 (zaa (ht.zbc _ _ _ h4) (zk h3 x)))
   rcases fk h with ⟨h5,h⟩ | ⟨h5,h⟩
   ·obtain⟨a32,h6,h⟩:=sm h
    rcases fk h with ⟨h7,h⟩ | ⟨h7,h⟩
    ·obtain⟨a33,rfl⟩:∃z_,z_=r:=⟨_,rfl⟩
     have h8:=h
     exact path (o14 (zax h5 5 (zaa (ht.zbh _ _ _ h6) (zk h5 (zax h7 5 (zaa (ht.zaS _ _ _ h8) (zk h7 ob))))))) (by kernel_rfl)
    ·cases h
     exact path (o14 (zax h5 5 (zaa (ht.zbh _ _ _ h6) (zk h5 (zax h7 6 ob))))) (by kernel_rfl)
   ·cases h
    exact path (o14 (zax h5 6 (zax (rfl:false=false) 6 ob))) (by kernel_rfl)
  ·cases h
   exact path (o7 (zax h3 6 (zax (rfl:false=false) 12 ob))) (by kernel_rfl)
 ·cases h
  exact path (zax h1 6 (zax (rfl:false=false) 18 ob)) (by kernel_rfl)
theorem zc0.ok {n:Nat} {t:Tab} (ht:TabOk t (run Tryd.prog own kp X n)):∀(p1:GCode) (p2:GCode) r,zc0 t n p1 p2=some r→run Tryd.prog own kp X (n+1) 24 [(.t (GCode.t p1)),(.t (GCode.t p2))] []=some ((Bo r),[]):=by
 intro p1 p2 r h
 obtain⟨a1,a2,a3,⟨a4,a5,a6,a7,a8⟩,⟨a9,a10,a11⟩,a12,a13,a14⟩:=p1
 obtain⟨a15,a16,a17,⟨a18,a19,a20,a21,a22⟩,⟨a23,a24,a25⟩,a26,a27,a28⟩:=p2
 rw[zc0]at h
 rcases fk h with ⟨h1,h⟩ | ⟨h1,h⟩
 ·obtain⟨a29,h2,h⟩:=sm h
  have o7 {os} (x:Obls (env Tryd.prog 24 Tryd.f24 (run Tryd.prog own kp X n)) n os):=zax h1 5 (zaa (ht.slices_Equal_string _ _ _ h2) (zk h1 x))
  rcases fk h with ⟨h3,h⟩ | ⟨h3,h⟩
  ·obtain⟨a30,h4,h⟩:=sm h
   rcases fk h with ⟨h5,h⟩ | ⟨h5,h⟩
   ·obtain⟨a31,h6,h⟩:=sm h
    obtain⟨a32,rfl⟩:∃z_,z_=r:=⟨_,rfl⟩
    have h7:=h
    exact zi Tryd.func24 (o7 (zax h3 5 (zaa (ht.slices_Equal_int _ _ _ h4) (zk h3 (zax h5 5 (zaa (ht.slices_Equal_string _ _ _ h6) (zk h5 (zau (zcu.ok ht n _ _ _ _ h7) ob)))))))) (by kernel_rfl)
   ·obtain⟨a33,rfl⟩:∃z_,z_=r:=⟨_,rfl⟩
    have h8:=h
    exact zi Tryd.func24 (o7 (zax h3 5 (zaa (ht.slices_Equal_int _ _ _ h4) (zk h3 (zax h5 6 (zau (zcu.ok ht n _ _ _ _ h8) ob)))))) (by kernel_rfl)
  ·obtain⟨a34,rfl⟩:∃z_,z_=r:=⟨_,rfl⟩
   have h9:=h
   exact zi Tryd.func24 (o7 (zax h3 6 (zax (rfl:false=false) 6 (zau (zcu.ok ht n _ _ _ _ h9) ob)))) (by kernel_rfl)
 ·obtain⟨a35,rfl⟩:∃z_,z_=r:=⟨_,rfl⟩
  have h10:=h
  exact zi Tryd.func24 (zax h1 6 (zax (rfl:false=false) 12 (zau (zcu.ok ht n _ _ _ _ h10) ob))) (by kernel_rfl)
theorem zbP.ok {n:Nat} {t:Tab} (ht:TabOk t (run Tryd.prog own kp X n)):∀(p1:GStep) (p2:Int) r,zbP t n p1 p2=some r→run Tryd.prog own kp X (n+1) 49 [(.t (GStep.t p1)),(.ref (.v (.int .i64 p2)))] []=some ((Bo r),[]):=by
 intro p1 p2 r h
 obtain⟨a1,a2,a3,⟨a4,a5,a6,a7,a8⟩,⟨a9,a10,a11⟩,a12,a13,a14⟩:=p1
 obtain⟨a15,rfl⟩:∃z_,z_=p2:=⟨_,rfl⟩
 rw[zbP]at h
 obtain⟨a16,h1,h⟩:=sm h
 cases h
 exact zi Tryd.func49 (zaa (ht.zdI _ _ _ h1) ob) (by kernel_rfl)
theorem zbK.okL (ht:TabOk t call) (n:Nat):∀(k:Nat) (a1:Int) (a2 a3:List zh) (a4 a5:Int) (r:_),zbK t n k a1 a2 a3 a4 a5=some r→loopN (exec (env Tryd.prog 87 Tryd.f87 call) n (sub [1,1,0,1,0,0] (zt Tryd.f87))) k (mkSt 22 22 [(1,(I6 a1)),(5,(.t (.sl true 5 (zh.ts a2)))),(8,(Sl 5 (zh.ts a3))),(9,(I6 a4)),(10,(I6 a5))] [])=some (zbK.to r)
 | 0,a1,a2,a3,a4,a5,r,h=>by rw[zbK]at h;cases h
 | k+1,a1,a2,a3,a4,a5,r,h=>by
  rw[zbK]at h
  rcases fk h with ⟨h1,h⟩ | ⟨h1,h⟩
  ·obtain⟨h2,h⟩:=ck h
   obtain⟨⟨a6,a7,a8,a9,a10⟩,h3,h⟩:=sm h
   obtain⟨⟨a11,a12,a13,a14,a15⟩,h4,h⟩:=sm h
   obtain⟨h5,h⟩:=cl h
   exact zM (path (zk h1 (zaq h2 (zan (zu zh.zl h3) (zaa (ht.zcN _ _ _ h4) (zeT (zdT zh.zl h5) (zfb (zd7 zh.zl (a:=a2) (b:=([(zh.mk a11 a12 a13 a14 a15)]:List zh))) ob)))))) (by kernel_rfl)) (zbK.okL ht n k _ _ _ _ _ _ h)
  ·cases h
   exact zx (path (zk h1 ob) (by kernel_rfl)) (fun h=>by cases h)
theorem zcb.ok {n:Nat} {t:Tab} (ht:TabOk t (run Tryd.prog own kp X n)):∀(p1:List zh) (p2:Int) r,zcb t n p1 p2=some r→run Tryd.prog own kp X (n+1) 87 [(Sl 5 (zh.ts p1)),(I6 p2)] []=some ((Sl 5 (zh.ts r)),[]):=by
 intro p1 p2 r h
 obtain⟨a1,rfl⟩:∃z_,z_=p1:=⟨_,rfl⟩
 obtain⟨a2,rfl⟩:∃z_,z_=p2:=⟨_,rfl⟩
 rw[zcb]at h
 obtain⟨⟨a3,a4,a5,a6,a7,a8⟩,h1,h⟩:=sm h
 cases h
 exact zi Tryd.func87 (zG (zo zh.zl (l:=a1)) (zbj (lk (sub [1,1,0,1,0] (zt Tryd.f87)) (by kernel_rfl) (zbK.okL ht n n _ _ _ _ _ _ h1)) ob)) (by kernel_rfl)
theorem zar.okL (ht:TabOk t call) (n:Nat):∀(k:Nat) (a1 a2:List ByteArray) (a3 a4:Int) (r:_),zar t n k a1 a2 a3 a4=some r→loopN (exec (env Tryd.prog 39 Tryd.f39 call) n (sub [1,1,0,1,0,0] (zt Tryd.f39))) k (mkSt 26 26 [(0,(Sl 1 (texts a1))),(1,(Sl 1 (texts a2))),(12,(I6 a3)),(13,(I6 a4))] [])=some (zar.to r)
 | 0,a1,a2,a3,a4,r,h=>by rw[zar]at h;cases h
 | k+1,a1,a2,a3,a4,r,h=>by
  rw[zar]at h
  rcases fk h with ⟨h1,h⟩ | ⟨h1,h⟩
  ·obtain⟨h2,h⟩:=ck h
   obtain⟨a5,h3,h⟩:=sm h
   obtain⟨a6,h4,h⟩:=sm h
   rcases fk h with ⟨h5,h⟩ | ⟨h5,h⟩
   ·exact zM (path (zk h1 (zaq h2 (zan (zu zF h3) (zaq h2 (zan (zu zF h4) (zk (ng h5) ob)))))) (by kernel_rfl)) (zar.okL ht n k _ _ _ _ _ h)
   ·cases h
    exact zx (path (zk h1 (zaq h2 (zan (zu zF h3) (zaq h2 (zan (zu zF h4) (zk (ng h5) ob)))))) (by kernel_rfl)) (fun h=>by cases h)
  ·cases h
   exact zx (path (zk h1 ob) (by kernel_rfl)) (fun h=>by cases h)
theorem slices_Equal_string.ok {n:Nat} {t:Tab} (ht:TabOk t (run Tryd.prog own kp X n)):∀(p1:List ByteArray) (p2:List ByteArray) r,slices_Equal_string t n p1 p2=some r→run Tryd.prog own kp X (n+1) 39 [(Sl 1 (texts p1)),(Sl 1 (texts p2))] []=some ((Bo r),[]):=by
 intro p1 p2 r h
 obtain⟨a1,rfl⟩:∃z_,z_=p1:=⟨_,rfl⟩
 obtain⟨a2,rfl⟩:∃z_,z_=p2:=⟨_,rfl⟩
 rw[slices_Equal_string]at h
 rcases fk h with ⟨h1,h⟩ | ⟨h1,h⟩
 ·cases h
  exact zi Tryd.func39 (zG (zo zF (l:=a1)) (zG (zo zF (l:=a2)) (zk h1 ob))) (by kernel_rfl)
 ·obtain⟨a3 | ⟨a4,a5,a6,a7,a8⟩,h2,h⟩:=sm h
  ·cases h
   exact zi Tryd.func39 (zG (zo zF (l:=a1)) (zG (zo zF (l:=a2)) (zk h1 (zG (zo zF (l:=a1)) (zbj (lk (sub [1,1,0,1,0] (zt Tryd.f39)) (by kernel_rfl) (zar.okL ht n n _ _ _ _ _ h2)) ob))))) (by kernel_rfl)
  ·cases h
   exact zi Tryd.func39 (zG (zo zF (l:=a1)) (zG (zo zF (l:=a2)) (zk h1 (zG (zo zF (l:=a1)) (zbj (lk (sub [1,1,0,1,0] (zt Tryd.f39)) (by kernel_rfl) (zar.okL ht n n _ _ _ _ _ h2)) ob))))) (by kernel_rfl)
theorem zaC.okL (ht:TabOk t call) (n:Nat):∀(k:Nat) (a1 a2:List Int) (a3 a4:Int) (r:_),zaC t n k a1 a2 a3 a4=some r→loopN (exec (env Tryd.prog 40 Tryd.f40 call) n (sub [1,1,0,1,0,0] (zt Tryd.f40))) k (mkSt 26 26 [(0,(Sl 1 (zz a1))),(1,(Sl 1 (zz a2))),(12,(I6 a3)),(13,(I6 a4))] [])=some (zaC.to r)
 | 0,a1,a2,a3,a4,r,h=>by rw[zaC]at h;cases h
 | k+1,a1,a2,a3,a4,r,h=>by
  rw[zaC]at h
  rcases fk h with ⟨h1,h⟩ | ⟨h1,h⟩
  ·obtain⟨h2,h⟩:=ck h
   obtain⟨a5,h3,h⟩:=sm h
   obtain⟨a6,h4,h⟩:=sm h
   rcases fk h with ⟨h5,h⟩ | ⟨h5,h⟩
   ·cases h
    exact zx (path (zk h1 (zaq h2 (zan (zu zw h3) (zaq h2 (zan (zu zw h4) (zk h5 ob)))))) (by kernel_rfl)) (fun h=>by cases h)
   ·exact zM (path (zk h1 (zaq h2 (zan (zu zw h3) (zaq h2 (zan (zu zw h4) (zk h5 ob)))))) (by kernel_rfl)) (zaC.okL ht n k _ _ _ _ _ h)
  ·cases h
   exact zx (path (zk h1 ob) (by kernel_rfl)) (fun h=>by cases h)
theorem slices_Equal_int.ok {n:Nat} {t:Tab} (ht:TabOk t (run Tryd.prog own kp X n)):∀(p1:List Int) (p2:List Int) r,slices_Equal_int t n p1 p2=some r→run Tryd.prog own kp X (n+1) 40 [(Sl 1 (zz p1)),(Sl 1 (zz p2))] []=some ((Bo r),[]):=by
 intro p1 p2 r h
 obtain⟨a1,rfl⟩:∃z_,z_=p1:=⟨_,rfl⟩
 obtain⟨a2,rfl⟩:∃z_,z_=p2:=⟨_,rfl⟩
 rw[slices_Equal_int]at h
 rcases fk h with ⟨h1,h⟩ | ⟨h1,h⟩
 ·cases h
  exact zi Tryd.func40 (zG (zo zw (l:=a1)) (zG (zo zw (l:=a2)) (zk h1 ob))) (by kernel_rfl)
 ·obtain⟨a3 | ⟨a4,a5,a6,a7,a8⟩,h2,h⟩:=sm h
  ·cases h
   exact zi Tryd.func40 (zG (zo zw (l:=a1)) (zG (zo zw (l:=a2)) (zk h1 (zG (zo zw (l:=a1)) (zbj (lk (sub [1,1,0,1,0] (zt Tryd.f40)) (by kernel_rfl) (zaC.okL ht n n _ _ _ _ _ h2)) ob))))) (by kernel_rfl)
  ·cases h
   exact zi Tryd.func40 (zG (zo zw (l:=a1)) (zG (zo zw (l:=a2)) (zk h1 (zG (zo zw (l:=a1)) (zbj (lk (sub [1,1,0,1,0] (zt Tryd.f40)) (by kernel_rfl) (zaC.okL ht n n _ _ _ _ _ h2)) ob))))) (by kernel_rfl)
theorem zaD.okL (ht:TabOk t call) (n:Nat):∀(k:Nat) (a1 a2:List GKey) (a3 a4:Int) (r:_),zaD t n k a1 a2 a3 a4=some r→loopN (exec (env Tryd.prog 41 Tryd.f41 call) n (sub [1,1,0,1,0,0] (zt Tryd.f41))) k (mkSt 26 26 [(0,(Sl 4 (GKey.ts a1))),(1,(Sl 4 (GKey.ts a2))),(12,(I6 a3)),(13,(I6 a4))] [])=some (zaD.to r)
 | 0,a1,a2,a3,a4,r,h=>by rw[zaD]at h;cases h
 | k+1,a1,a2,a3,a4,r,h=>by
  rw[zaD]at h
  rcases fk h with ⟨h1,h⟩ | ⟨h1,h⟩
  ·obtain⟨h2,h⟩:=ck h
   obtain⟨⟨a5,a6,a7,a8⟩,h3,h⟩:=sm h
   obtain⟨⟨a9,a10,a11,a12⟩,h4,h⟩:=sm h
   rcases fk h with ⟨h5,h⟩ | ⟨h5,h⟩
   ·exact zM (path (zk h1 (zaq h2 (zan (zu GKey.zl h3) (zaq h2 (zan (zu GKey.zl h4) (zk (ng h5) ob)))))) (by kernel_rfl)) (zaD.okL ht n k _ _ _ _ _ h)
   ·cases h
    exact zx (path (zk h1 (zaq h2 (zan (zu GKey.zl h3) (zaq h2 (zan (zu GKey.zl h4) (zk (ng h5) ob)))))) (by kernel_rfl)) (fun h=>by cases h)
  ·cases h
   exact zx (path (zk h1 ob) (by kernel_rfl)) (fun h=>by cases h)
theorem zbc.ok {n:Nat} {t:Tab} (ht:TabOk t (run Tryd.prog own kp X n)):∀(p1:List GKey) (p2:List GKey) r,zbc t n p1 p2=some r→run Tryd.prog own kp X (n+1) 41 [(Sl 4 (GKey.ts p1)),(Sl 4 (GKey.ts p2))] []=some ((Bo r),[]):=by
 intro p1 p2 r h
 obtain⟨a1,rfl⟩:∃z_,z_=p1:=⟨_,rfl⟩
 obtain⟨a2,rfl⟩:∃z_,z_=p2:=⟨_,rfl⟩
 rw[zbc]at h
 rcases fk h with ⟨h1,h⟩ | ⟨h1,h⟩
 ·cases h
  exact zi Tryd.func41 (zG (zo GKey.zl (l:=a1)) (zG (zo GKey.zl (l:=a2)) (zk h1 ob))) (by kernel_rfl)
 ·obtain⟨a3 | ⟨a4,a5,a6,a7,a8⟩,h2,h⟩:=sm h
  ·cases h
   exact zi Tryd.func41 (zG (zo GKey.zl (l:=a1)) (zG (zo GKey.zl (l:=a2)) (zk h1 (zG (zo GKey.zl (l:=a1)) (zbj (lk (sub [1,1,0,1,0] (zt Tryd.f41)) (by kernel_rfl) (zaD.okL ht n n _ _ _ _ _ h2)) ob))))) (by kernel_rfl)
  ·cases h
   exact zi Tryd.func41 (zG (zo GKey.zl (l:=a1)) (zG (zo GKey.zl (l:=a2)) (zk h1 (zG (zo GKey.zl (l:=a1)) (zbj (lk (sub [1,1,0,1,0] (zt Tryd.f41)) (by kernel_rfl) (zaD.okL ht n n _ _ _ _ _ h2)) ob))))) (by kernel_rfl)
theorem zbh.ok {n:Nat} {t:Tab} (ht:TabOk t (run Tryd.prog own kp X n)):∀(p1:zh) (p2:zh) r,zbh t n p1 p2=some r→run Tryd.prog own kp X (n+1) 42 [(.t (zh.t p1)),(.t (zh.t p2))] []=some ((Bo r),[]):=by
 intro p1 p2 r h
 obtain⟨a1,a2,a3,a4,a5⟩:=p1
 obtain⟨a6,a7,a8,a9,a10⟩:=p2
 rw[zbh]at h
 obtain⟨a11,h1,h⟩:=sm h
 cases h
 exact zi Tryd.func42 (zaa (ht.zdy _ _ _ h1) ob) (by kernel_rfl)
theorem zaS.ok {n:Nat} {t:Tab} (ht:TabOk t (run Tryd.prog own kp X n)):∀(p1:GPred) (p2:GPred) r,zaS t n p1 p2=some r→run Tryd.prog own kp X (n+1) 43 [(.t (GPred.t p1)),(.t (GPred.t p2))] []=some ((Bo r),[]):=by
 intro p1 p2 r h
 obtain⟨a1,a2,a3⟩:=p1
 obtain⟨a4,a5,a6⟩:=p2
 rw[zaS]at h
 rcases fk h with ⟨h1,h⟩ | ⟨h1,h⟩
 ·obtain⟨a7,h2,h⟩:=sm h
  rcases fk h with ⟨h3,h⟩ | ⟨h3,h⟩
  ·obtain⟨a8,rfl⟩:∃z_,z_=r:=⟨_,rfl⟩
   have h4:=h
   exact zi Tryd.func43 (zax h1 5 (zaa (ht.zad _ _ _ h2) (zk h1 (zax h3 5 (zaa (ht.zZ _ _ _ h4) (zk h3 ob)))))) (by kernel_rfl)
  ·cases h
   exact zi Tryd.func43 (zax h1 5 (zaa (ht.zad _ _ _ h2) (zk h1 (zax h3 6 ob)))) (by kernel_rfl)
 ·cases h
  exact zi Tryd.func43 (zax h1 6 (zax (rfl:false=false) 6 ob)) (by kernel_rfl)
theorem zcc.ok (ht:TabOk t call) (n:Nat) (a1:Int) (a2:Bool) (a3:Int) (a4:List ByteArray) (a5:List Int) (a6 a7:Int) (a8:ByteArray) (a9 a10:List zh) (a11:Int) (a12:List zh) (a13:List GPred) (a14:List (List GStep)) (a15:List GBy) (a16:List ByteArray) (r:_) (h:zcc t n a1 a2 a3 a4 a5 a6 a7 a8 a9 a10 a11 a12 a13 a14 a15 a16=some r):exec (env Tryd.prog 50 Tryd.f50 call) n (sub [1,1,1,1,0,0,1,1,1,1,1,1,1] (zt Tryd.f50)) (mkSt 163 163 [(1,(I6 a1)),(2,(.ptr 2 0 [] 0)),(97,(Bo a2))] [(2,(.t (.st [(.v (.int .i64 a3)),(.sl false 1 (texts a4)),(.sl false 1 (zz a5)),(.st [(.v (.int .i64 a6)),(.v (.int .i64 a7)),(.v (.string a8)),(.sl false 5 (zh.ts a9)),(.sl false 5 (zh.ts a10))]),(.st [(.v (.int .i64 a11)),(.sl false 5 (zh.ts a12)),(.sl false 3 (GPred.ts a13))]),(.sl false 1 (zq a14)),(.sl false 4 (GBy.ts a15)),(.sl false 1 (texts a16))])))])=some (zcc.to r):=by
 rw[zcc]at h
 rcases fk h with ⟨h1,h⟩ | ⟨h1,h⟩
 ·cases h
  exact path (zk h1 ob) (by kernel_rfl)
 ·rcases fk h with ⟨h2,h⟩ | ⟨h2,h⟩
  ·obtain⟨a17,h3,h⟩:=sm h
   have o6 {os} (x:Obls (env Tryd.prog 50 Tryd.f50 call) n os):=zk h1 (zV h2 (zaa (ht.zcp _ _ h3) (zk h2 x)))
   rcases fk h with ⟨h4,h⟩ | ⟨h4,h⟩
   ·cases h
    exact path (o6 (zax h4 7 (zk h2 (zk h4 (zk h2 (zdp 1 ob)))))) (by kernel_rfl)
   ·have o18 {os} (x:Obls (env Tryd.prog 50 Tryd.f50 call) n os):=o6 (zV h4 (zG (zo GBy.zl (l:=a15)) (zV h4 (zG (zo zF (l:=a4)) (zk h4 (zk h2 (zk h4 (zk h2 x))))))))
    rcases fk h with ⟨h5,h⟩ | ⟨h5,h⟩
    ·cases h
     exact path (o18 (zk h5 ob)) (by kernel_rfl)
    ·cases h
     exact path (o18 (zk h5 ob)) (by kernel_rfl)
  ·cases h
   exact path (zk h1 (zax h2 6 (zk (rfl:false=false) ob))) (by kernel_rfl)
theorem zcd.ok (ht:TabOk t call) (n:Nat) (a1:Int) (a2:Bool) (a3:Int) (a4:List ByteArray) (a5:List Int) (a6 a7:Int) (a8:ByteArray) (a9 a10:List zh) (a11:Int) (a12:List zh) (a13:List GPred) (a14:List (List GStep)) (a15:List GBy) (a16:List ByteArray) (a17 a18 a19 a20 a21 a22 a23 a24:Int) (a25 a26:Bool) (r:_) (h:zcd t n a1 a2 a3 a4 a5 a6 a7 a8 a9 a10 a11 a12 a13 a14 a15 a16 a17 a18 a19 a20 a21 a22 a23 a24 a25 a26=some r):exec (env Tryd.prog 50 Tryd.f50 call) n (sub [1,1,1,1,0,0,1,1,1,1,1] (zt Tryd.f50)) (mkSt 163 163 [(1,(I6 a1)),(2,(.ptr 2 0 [] 0)),(5,(.ptr 5 0 [] 0)),(76,(Bo a2))] [(2,(.t (.st [(.v (.int .i64 a3)),(.sl false 1 (texts a4)),(.sl false 1 (zz a5)),(.st [(.v (.int .i64 a6)),(.v (.int .i64 a7)),(.v (.string a8)),(.sl false 5 (zh.ts a9)),(.sl false 5 (zh.ts a10))]),(.st [(.v (.int .i64 a11)),(.sl false 5 (zh.ts a12)),(.sl false 3 (GPred.ts a13))]),(.sl false 1 (zq a14)),(.sl false 4 (GBy.ts a15)),(.sl false 1 (texts a16))]))),(5,(.t (.st [(.st [(.v (.int .i64 a17)),(.v (.int .i64 a18))]),(.st [(.v (.int .i64 a19)),(.v (.int .i64 a20))]),(.st [(.v (.int .i64 a21)),(.v (.int .i64 a22))]),(.st [(.v (.int .i64 a23)),(.v (.int .i64 a24))]),(.v (.bool a25)),(.v (.bool a26))])))])=some (zcd.to r):=by
 rw[zcd]at h
 rcases fk h with ⟨h1,h⟩ | ⟨h1,h⟩
 ·cases h
  exact path (zk h1 ob) (by kernel_rfl)
 ·rcases fk h with ⟨h2,h⟩ | ⟨h2,h⟩
  ·obtain⟨a27,h3,h⟩:=sm h
   have o7 {os} (x:Obls (env Tryd.prog 50 Tryd.f50 call) n os):=zk h1 (zV h2 (zaa (ht.zcO _ _ h3) (zaG h2 x)))
   rcases fk h with ⟨h4,h⟩ | ⟨h4,h⟩
   ·have h5:=h
    rcases r with a28 | ⟨a29,a30,a31,a32,a33,a34,a35,a36,a37,a38,a39,a40,a41,a42,a43⟩
    ·exact path (o7 (zax h4 6 (zau (zcc.ok ht n _ _ _ _ _ _ _ _ _ _ _ _ _ _ _ _ _ h5) ob))) (by kernel_rfl)
    ·exact path (o7 (zax h4 6 (zau (zcc.ok ht n _ _ _ _ _ _ _ _ _ _ _ _ _ _ _ _ _ h5) ob))) (by kernel_rfl)
   ·have h6:=h
    rcases r with a44 | ⟨a45,a46,a47,a48,a49,a50,a51,a52,a53,a54,a55,a56,a57,a58,a59⟩
    ·exact path (o7 (za1 h4 (za1 (ng h2) (zk h4 (zk (ng h2) (zk h4 (zau (zcc.ok ht n _ _ _ _ _ _ _ _ _ _ _ _ _ _ _ _ _ h6) ob))))))) (by kernel_rfl)
    ·exact path (o7 (za1 h4 (za1 (ng h2) (zk h4 (zk (ng h2) (zk h4 (zau (zcc.ok ht n _ _ _ _ _ _ _ _ _ _ _ _ _ _ _ _ _ h6) ob))))))) (by kernel_rfl)
  ·obtain⟨a60,h7,h⟩:=sm h
   have h8:=h
   have o18 {os} (x:Obls (env Tryd.prog 50 Tryd.f50 call) n os):=zk h1 (zax h2 5 (za1 (rfl:false=false) (zV (ng h2) (zaa (ht.zcB _ _ h7) (zk (ng h2) (zk (rfl:false=false) (zk (ng h2) (zk (rfl:false=false) x))))))))
   rcases r with a61 | ⟨a62,a63,a64,a65,a66,a67,a68,a69,a70,a71,a72,a73,a74,a75,a76⟩
   ·exact path (o18 (zau (zcc.ok ht n _ _ _ _ _ _ _ _ _ _ _ _ _ _ _ _ _ h8) ob)) (by kernel_rfl)
   ·exact path (o18 (zau (zcc.ok ht n _ _ _ _ _ _ _ _ _ _ _ _ _ _ _ _ _ h8) ob)) (by kernel_rfl)
theorem zce.ok (ht:TabOk t call) (n:Nat) (a1:Int) (a2:Bool) (a3:Int) (a4:List ByteArray) (a5:List Int) (a6 a7:Int) (a8:ByteArray) (a9 a10:List zh) (a11:Int) (a12:List zh) (a13:List GPred) (a14:List (List GStep)) (a15:List GBy) (a16:List ByteArray) (a17 a18 a19 a20 a21 a22 a23 a24:Int) (a25 a26:Bool) (r:_) (h:zce t n a1 a2 a3 a4 a5 a6 a7 a8 a9 a10 a11 a12 a13 a14 a15 a16 a17 a18 a19 a20 a21 a22 a23 a24 a25 a26=some r):exec (env Tryd.prog 50 Tryd.f50 call) n (sub [1,1,1,1,0,0,1,1,1] (zt Tryd.f50)) (mkSt 163 163 [(1,(I6 a1)),(2,(.ptr 2 0 [] 0)),(5,(.ptr 5 0 [] 0)),(60,(Bo a2))] [(2,(.t (.st [(.v (.int .i64 a3)),(.sl false 1 (texts a4)),(.sl false 1 (zz a5)),(.st [(.v (.int .i64 a6)),(.v (.int .i64 a7)),(.v (.string a8)),(.sl false 5 (zh.ts a9)),(.sl false 5 (zh.ts a10))]),(.st [(.v (.int .i64 a11)),(.sl false 5 (zh.ts a12)),(.sl false 3 (GPred.ts a13))]),(.sl false 1 (zq a14)),(.sl false 4 (GBy.ts a15)),(.sl false 1 (texts a16))]))),(5,(.t (.st [(.st [(.v (.int .i64 a17)),(.v (.int .i64 a18))]),(.st [(.v (.int .i64 a19)),(.v (.int .i64 a20))]),(.st [(.v (.int .i64 a21)),(.v (.int .i64 a22))]),(.st [(.v (.int .i64 a23)),(.v (.int .i64 a24))]),(.v (.bool a25)),(.v (.bool a26))])))])=some (zce.to r):=by
 rw[zce]at h
 rcases fk h with ⟨h1,h⟩ | ⟨h1,h⟩
 ·cases h
  exact path (zk h1 ob) (by kernel_rfl)
 ·rcases fk h with ⟨h2,h⟩ | ⟨h2,h⟩
  ·obtain⟨a27,h3,h⟩:=sm h
   have o7 {os} (x:Obls (env Tryd.prog 50 Tryd.f50 call) n os):=zk h1 (zV h2 (zaa (ht.zbR _ _ h3) (zaG h2 x)))
   rcases fk h with ⟨h4,h⟩ | ⟨h4,h⟩
   ·have h5:=h
    rcases r with a28 | ⟨a29,a30,a31,a32,a33,a34,a35,a36,a37,a38,a39,a40,a41,a42,a43⟩
    ·exact path (o7 (zax h4 6 (zau (zcd.ok ht n _ _ _ _ _ _ _ _ _ _ _ _ _ _ _ _ _ _ _ _ _ _ _ _ _ _ _ h5) ob))) (by kernel_rfl)
    ·exact path (o7 (zax h4 6 (zau (zcd.ok ht n _ _ _ _ _ _ _ _ _ _ _ _ _ _ _ _ _ _ _ _ _ _ _ _ _ _ _ h5) ob))) (by kernel_rfl)
   ·have h6:=h
    rcases r with a44 | ⟨a45,a46,a47,a48,a49,a50,a51,a52,a53,a54,a55,a56,a57,a58,a59⟩
    ·exact path (o7 (za1 h4 (zax (ng h2) 5 (zk h4 (zk (ng h2) (zk h4 (zau (zcd.ok ht n _ _ _ _ _ _ _ _ _ _ _ _ _ _ _ _ _ _ _ _ _ _ _ _ _ _ _ h6) ob))))))) (by kernel_rfl)
    ·exact path (o7 (za1 h4 (zax (ng h2) 5 (zk h4 (zk (ng h2) (zk h4 (zau (zcd.ok ht n _ _ _ _ _ _ _ _ _ _ _ _ _ _ _ _ _ _ _ _ _ _ _ _ _ _ _ h6) ob))))))) (by kernel_rfl)
  ·obtain⟨a60,h7,h⟩:=sm h
   have h8:=h
   have o19 {os} (x:Obls (env Tryd.prog 50 Tryd.f50 call) n os):=zk h1 (zax h2 5 (za1 (rfl:false=false) (za1 (ng h2) (zaa (ht.zbh _ _ _ h7) (zk (ng h2) (zk (rfl:false=false) (zk (ng h2) (zk (rfl:false=false) x))))))))
   rcases r with a61 | ⟨a62,a63,a64,a65,a66,a67,a68,a69,a70,a71,a72,a73,a74,a75,a76⟩
   ·exact path (o19 (zau (zcd.ok ht n _ _ _ _ _ _ _ _ _ _ _ _ _ _ _ _ _ _ _ _ _ _ _ _ _ _ _ h8) ob)) (by kernel_rfl)
   ·exact path (o19 (zau (zcd.ok ht n _ _ _ _ _ _ _ _ _ _ _ _ _ _ _ _ _ _ _ _ _ _ _ _ _ _ _ h8) ob)) (by kernel_rfl)
theorem zaz.ok (ht:TabOk t call) (n:Nat) (a1:Int) (a2:Bool) (a3:Int) (a4:List ByteArray) (a5:List Int) (a6 a7:Int) (a8:ByteArray) (a9 a10:List zh) (a11:Int) (a12:List zh) (a13:List GPred) (a14:List (List GStep)) (a15:List GBy) (a16:List ByteArray) (a17 a18 a19 a20 a21 a22 a23 a24:Int) (a25 a26:Bool) (r:_) (h:zaz t n a1 a2 a3 a4 a5 a6 a7 a8 a9 a10 a11 a12 a13 a14 a15 a16 a17 a18 a19 a20 a21 a22 a23 a24 a25 a26=some r):exec (env Tryd.prog 50 Tryd.f50 call) n (sub [1,1,1,1,0,0,1] (zt Tryd.f50)) (mkSt 163 163 [(1,(I6 a1)),(2,(.ptr 2 0 [] 0)),(5,(.ptr 5 0 [] 0)),(6,(.fn 66 [])),(19,(Bo a2))] [(2,(.t (.st [(.v (.int .i64 a3)),(.sl false 1 (texts a4)),(.sl false 1 (zz a5)),(.st [(.v (.int .i64 a6)),(.v (.int .i64 a7)),(.v (.string a8)),(.sl false 5 (zh.ts a9)),(.sl false 5 (zh.ts a10))]),(.st [(.v (.int .i64 a11)),(.sl false 5 (zh.ts a12)),(.sl false 3 (GPred.ts a13))]),(.sl false 1 (zq a14)),(.sl false 4 (GBy.ts a15)),(.sl false 1 (texts a16))]))),(5,(.t (.st [(.st [(.v (.int .i64 a17)),(.v (.int .i64 a18))]),(.st [(.v (.int .i64 a19)),(.v (.int .i64 a20))]),(.st [(.v (.int .i64 a21)),(.v (.int .i64 a22))]),(.st [(.v (.int .i64 a23)),(.v (.int .i64 a24))]),(.v (.bool a25)),(.v (.bool a26))])))])=some (zaz.to r):=by
 rw[zaz]at h
 rcases fk h with ⟨h1,h⟩ | ⟨h1,h⟩
 ·cases h
  exact path (zk h1 ob) (by kernel_rfl)
 ·obtain⟨a27,h2,h⟩:=sm h
  have o2 {os} (x:Obls (env Tryd.prog 50 Tryd.f50 call) n os):=zk h1 (zaa (ht.zA _ _ h2) x)
  rcases fk h with ⟨h3,h⟩ | ⟨h3,h⟩
  ·have h4:=h
   rcases r with a28 | ⟨a29,a30,a31,a32,a33,a34,a35,a36,a37,a38,a39,a40,a41,a42,a43⟩
   ·exact path (o2 (zax h3 5 (zdp 4 (zau (zce.ok ht n _ _ _ _ _ _ _ _ _ _ _ _ _ _ _ _ _ _ _ _ _ _ _ _ _ _ _ h4) ob)))) (by kernel_rfl)
   ·exact path (o2 (zax h3 5 (zdp 4 (zau (zce.ok ht n _ _ _ _ _ _ _ _ _ _ _ _ _ _ _ _ _ _ _ _ _ _ _ _ _ _ _ h4) ob)))) (by kernel_rfl)
  ·obtain⟨a44,h5,h⟩:=sm h
   have o8 {os} (x:Obls (env Tryd.prog 50 Tryd.f50 call) n os):=o2 (za1 h3 (zaa (ht.zA _ _ h5) (zk h3 x)))
   rcases fk h with ⟨h6,h⟩ | ⟨h6,h⟩
   ·have h7:=h
    rcases r with a45 | ⟨a46,a47,a48,a49,a50,a51,a52,a53,a54,a55,a56,a57,a58,a59,a60⟩
    ·exact path (o8 (za1 h6 (zau (zce.ok ht n _ _ _ _ _ _ _ _ _ _ _ _ _ _ _ _ _ _ _ _ _ _ _ _ _ _ _ h7) ob))) (by kernel_rfl)
    ·exact path (o8 (za1 h6 (zau (zce.ok ht n _ _ _ _ _ _ _ _ _ _ _ _ _ _ _ _ _ _ _ _ _ _ _ _ _ _ _ h7) ob))) (by kernel_rfl)
   ·obtain⟨a61,h8,h⟩:=sm h
    have h9:=h
    rcases r with a62 | ⟨a63,a64,a65,a66,a67,a68,a69,a70,a71,a72,a73,a74,a75,a76,a77⟩
    ·exact path (o8 (zaG h6 (zaa (ht.zbB _ _ h8) (zaG h6 (zau (zce.ok ht n _ _ _ _ _ _ _ _ _ _ _ _ _ _ _ _ _ _ _ _ _ _ _ _ _ _ _ h9) ob))))) (by kernel_rfl)
    ·exact path (o8 (zaG h6 (zaa (ht.zbB _ _ h8) (zaG h6 (zau (zce.ok ht n _ _ _ _ _ _ _ _ _ _ _ _ _ _ _ _ _ _ _ _ _ _ _ _ _ _ _ h9) ob))))) (by kernel_rfl)
theorem zcz.okL (ht:TabOk t call) (n:Nat):∀(k:Nat) (a1:Int) (a2:List (List GStep)) (a3 a4 a5:Int) (a6:List ByteArray) (a7:List Int) (a8 a9:Int) (a10:ByteArray) (a11 a12:List zh) (a13:Int) (a14:List zh) (a15:List GPred) (a16:List (List GStep)) (a17:List GBy) (a18:List ByteArray) (r:_),zcz t n k a1 a2 a3 a4 a5 a6 a7 a8 a9 a10 a11 a12 a13 a14 a15 a16 a17 a18=some r→loopN (exec (env Tryd.prog 50 Tryd.f50 call) n (sub [1,1,1,1,1,0,1,0,0] (zt Tryd.f50))) k (mkSt 163 163 [(1,(I6 a1)),(2,(.ptr 2 0 [] 0)),(136,(Sl 1 (zq a2))),(137,(I6 a3)),(138,(I6 a4))] [(2,(.t (.st [(.v (.int .i64 a5)),(.sl false 1 (texts a6)),(.sl false 1 (zz a7)),(.st [(.v (.int .i64 a8)),(.v (.int .i64 a9)),(.v (.string a10)),(.sl false 5 (zh.ts a11)),(.sl false 5 (zh.ts a12))]),(.st [(.v (.int .i64 a13)),(.sl false 5 (zh.ts a14)),(.sl false 3 (GPred.ts a15))]),(.sl false 1 (zq a16)),(.sl false 4 (GBy.ts a17)),(.sl false 1 (texts a18))])))])=some (zcz.to r)
 | 0,a1,a2,a3,a4,a5,a6,a7,a8,a9,a10,a11,a12,a13,a14,a15,a16,a17,a18,r,h=>by rw[zcz]at h;cases h
 | k+1,a1,a2,a3,a4,a5,a6,a7,a8,a9,a10,a11,a12,a13,a14,a15,a16,a17,a18,r,h=>by
  rw[zcz]at h
  rcases fk h with ⟨h1,h⟩ | ⟨h1,h⟩
  ·obtain⟨h2,h⟩:=ck h
   obtain⟨a19,h3,h⟩:=sm h
   obtain⟨a20,h4,h⟩:=sm h
   rcases fk h with ⟨h5,h⟩ | ⟨h5,h⟩
   ·exact zM (path (zk h1 (zaq h2 (zan (zu zy h3) (zaa (ht.za5 _ _ _ h4) (zk (ng h5) ob))))) (by kernel_rfl)) (zcz.okL ht n k _ _ _ _ _ _ _ _ _ _ _ _ _ _ _ _ _ _ _ h)
   ·cases h
    exact zx (path (zk h1 (zaq h2 (zan (zu zy h3) (zaa (ht.za5 _ _ _ h4) (zk (ng h5) ob))))) (by kernel_rfl)) (fun h=>by cases h)
  ·cases h
   exact zx (path (zk h1 ob) (by kernel_rfl)) (fun h=>by cases h)
theorem zcA.okL (ht:TabOk t call) (n:Nat):∀(k:Nat) (a1:Int) (a2:List GBy) (a3 a4 a5:Int) (a6:List ByteArray) (a7:List Int) (a8 a9:Int) (a10:ByteArray) (a11 a12:List zh) (a13:Int) (a14:List zh) (a15:List GPred) (a16:List (List GStep)) (a17:List GBy) (a18:List ByteArray) (r:_),zcA t n k a1 a2 a3 a4 a5 a6 a7 a8 a9 a10 a11 a12 a13 a14 a15 a16 a17 a18=some r→loopN (exec (env Tryd.prog 50 Tryd.f50 call) n (sub [1,1,1,1,1,1,0,1,0,0] (zt Tryd.f50))) k (mkSt 163 163 [(1,(I6 a1)),(2,(.ptr 2 0 [] 0)),(149,(Sl 4 (GBy.ts a2))),(150,(I6 a3)),(151,(I6 a4))] [(2,(.t (.st [(.v (.int .i64 a5)),(.sl false 1 (texts a6)),(.sl false 1 (zz a7)),(.st [(.v (.int .i64 a8)),(.v (.int .i64 a9)),(.v (.string a10)),(.sl false 5 (zh.ts a11)),(.sl false 5 (zh.ts a12))]),(.st [(.v (.int .i64 a13)),(.sl false 5 (zh.ts a14)),(.sl false 3 (GPred.ts a15))]),(.sl false 1 (zq a16)),(.sl false 4 (GBy.ts a17)),(.sl false 1 (texts a18))])))])=some (zcA.to r)
 | 0,a1,a2,a3,a4,a5,a6,a7,a8,a9,a10,a11,a12,a13,a14,a15,a16,a17,a18,r,h=>by rw[zcA]at h;cases h
 | k+1,a1,a2,a3,a4,a5,a6,a7,a8,a9,a10,a11,a12,a13,a14,a15,a16,a17,a18,r,h=>by
  rw[zcA]at h
  rcases fk h with ⟨h1,h⟩ | ⟨h1,h⟩
  ·obtain⟨h2,h⟩:=ck h
   obtain⟨⟨a19,a20,a21,a22⟩,h3,h⟩:=sm h
   obtain⟨a23,h4,h⟩:=sm h
   rcases fk h with ⟨h5,h⟩ | ⟨h5,h⟩
   ·exact zM (path (zk h1 (zaq h2 (zan (zu GBy.zl h3) (zaa (ht.zdJ _ _ _ _ h4) (zk (ng h5) ob))))) (by kernel_rfl)) (zcA.okL ht n k _ _ _ _ _ _ _ _ _ _ _ _ _ _ _ _ _ _ _ h)
   ·cases h
    exact zx (path (zk h1 (zaq h2 (zan (zu GBy.zl h3) (zaa (ht.zdJ _ _ _ _ h4) (zk (ng h5) ob))))) (by kernel_rfl)) (fun h=>by cases h)
  ·cases h
   exact zx (path (zk h1 ob) (by kernel_rfl)) (fun h=>by cases h)
theorem zdU.ok (ht:TabOk t call) (n:Nat) (a1 a2:Int) (a3:List ByteArray) (a4:List Int) (a5 a6:Int) (a7:ByteArray) (a8 a9:List zh) (a10:Int) (a11:List zh) (a12:List GPred) (a13:List (List GStep)) (a14:List GBy) (a15:List ByteArray) (r:_) (h:zdU t n a1 a2 a3 a4 a5 a6 a7 a8 a9 a10 a11 a12 a13 a14 a15=some r):exec (env Tryd.prog 50 Tryd.f50 call) n (sub [1,1,1,1,1,1] (zt Tryd.f50)) (mkSt 163 163 [(1,(I6 a1)),(2,(.ptr 2 0 [] 0))] [(2,(.t (.st [(.v (.int .i64 a2)),(.sl false 1 (texts a3)),(.sl false 1 (zz a4)),(.st [(.v (.int .i64 a5)),(.v (.int .i64 a6)),(.v (.string a7)),(.sl false 5 (zh.ts a8)),(.sl false 5 (zh.ts a9))]),(.st [(.v (.int .i64 a10)),(.sl false 5 (zh.ts a11)),(.sl false 3 (GPred.ts a12))]),(.sl false 1 (zq a13)),(.sl false 4 (GBy.ts a14)),(.sl false 1 (texts a15))])))])=some (zdU.to r):=by
 rw[zdU]at h
 obtain⟨a16 | ⟨a17,a18,a19,a20,a21,a22,a23,a24,a25,a26,a27,a28,a29,a30,a31,a32,a33,a34,a35⟩,h1,h⟩:=sm h
 ·cases h
  exact path (zG (zo GBy.zl (l:=a14)) (zbj (lk (sub [1,1,1,1,1,1,0,1,0] (zt Tryd.f50)) (by kernel_rfl) (zcA.okL ht n n _ _ _ _ _ _ _ _ _ _ _ _ _ _ _ _ _ _ _ h1)) ob)) (by kernel_rfl)
 ·cases h
  exact path (zG (zo GBy.zl (l:=a14)) (zbj (lk (sub [1,1,1,1,1,1,0,1,0] (zt Tryd.f50)) (by kernel_rfl) (zcA.okL ht n n _ _ _ _ _ _ _ _ _ _ _ _ _ _ _ _ _ _ _ h1)) ob)) (by kernel_rfl)
theorem zbQ.ok (ht:TabOk t call) (n:Nat) (a1 a2:Int) (a3:List ByteArray) (a4:List Int) (a5 a6:Int) (a7:ByteArray) (a8 a9:List zh) (a10:Int) (a11:List zh) (a12:List GPred) (a13:List (List GStep)) (a14:List GBy) (a15:List ByteArray) (r:_) (h:zbQ t n a1 a2 a3 a4 a5 a6 a7 a8 a9 a10 a11 a12 a13 a14 a15=some r):exec (env Tryd.prog 50 Tryd.f50 call) n (sub [1,1,1,1,1] (zt Tryd.f50)) (mkSt 163 163 [(1,(I6 a1)),(2,(.ptr 2 0 [] 0))] [(2,(.t (.st [(.v (.int .i64 a2)),(.sl false 1 (texts a3)),(.sl false 1 (zz a4)),(.st [(.v (.int .i64 a5)),(.v (.int .i64 a6)),(.v (.string a7)),(.sl false 5 (zh.ts a8)),(.sl false 5 (zh.ts a9))]),(.st [(.v (.int .i64 a10)),(.sl false 5 (zh.ts a11)),(.sl false 3 (GPred.ts a12))]),(.sl false 1 (zq a13)),(.sl false 4 (GBy.ts a14)),(.sl false 1 (texts a15))])))])=some (zbQ.to r):=by
 rw[zbQ]at h
 obtain⟨a16 | ⟨a17,a18,a19,a20,a21,a22,a23,a24,a25,a26,a27,a28,a29,a30,a31,a32,a33,a34,a35⟩,h1,h⟩:=sm h
 ·cases h
  exact path (zG (zo zy (l:=a13)) (zbj (lk (sub [1,1,1,1,1,0,1,0] (zt Tryd.f50)) (by kernel_rfl) (zcz.okL ht n n _ _ _ _ _ _ _ _ _ _ _ _ _ _ _ _ _ _ _ h1)) ob)) (by kernel_rfl)
 ·obtain⟨a36,rfl⟩:∃z_,z_=r:=⟨_,rfl⟩
  have h2:=h
  exact path (zG (zo zy (l:=a13)) (zbj (lk (sub [1,1,1,1,1,0,1,0] (zt Tryd.f50)) (by kernel_rfl) (zcz.okL ht n n _ _ _ _ _ _ _ _ _ _ _ _ _ _ _ _ _ _ _ h1)) (zau (zdU.ok ht n _ _ _ _ _ _ _ _ _ _ _ _ _ _ _ _ h2) ob))) (by kernel_rfl)
theorem zdI.ok {n:Nat} {t:Tab} (ht:TabOk t (run Tryd.prog own kp X n)):∀(p1:GStep) (p2:Int) r,zdI t n p1 p2=some r→run Tryd.prog own kp X (n+1) 50 [(.t (GStep.t p1)),(I6 p2)] []=some ((Bo r),[]):=by
 intro p1 p2 r h
 obtain⟨a1,a2,a3,⟨a4,a5,a6,a7,a8⟩,⟨a9,a10,a11⟩,a12,a13,a14⟩:=p1
 obtain⟨a15,rfl⟩:∃z_,z_=p2:=⟨_,rfl⟩
 rw[zdI]at h
 obtain⟨a16,h1,h⟩:=sm h
 rcases fk h with ⟨h2,h⟩ | ⟨h2,h⟩
 ·cases h
  exact zi Tryd.func50 (zaa (ht.zdk _ _ h1) (zk h2 ob)) (by kernel_rfl)
 ·obtain⟨⟨⟨⟨a17,a18⟩,⟨a19,a20⟩,⟨a21,a22⟩,⟨a23,a24⟩,a25,a26⟩,⟨⟨a27,a28⟩,⟨a29,a30⟩,⟨a31,a32⟩,⟨a33,a34⟩,a35,a36⟩,⟨⟨a37,a38⟩,⟨a39,a40⟩,⟨a41,a42⟩,⟨a43,a44⟩,a45,a46⟩,⟨⟨a47,a48⟩,⟨a49,a50⟩,⟨a51,a52⟩,⟨a53,a54⟩,a55,a56⟩,⟨⟨a57,a58⟩,⟨a59,a60⟩,⟨a61,a62⟩,⟨a63,a64⟩,a65,a66⟩,⟨⟨a67,a68⟩,⟨a69,a70⟩,⟨a71,a72⟩,⟨a73,a74⟩,a75,a76⟩,⟨⟨a77,a78⟩,⟨a79,a80⟩,⟨a81,a82⟩,⟨a83,a84⟩,a85,a86⟩,⟨⟨a87,a88⟩,⟨a89,a90⟩,⟨a91,a92⟩,⟨a93,a94⟩,a95,a96⟩,⟨⟨a97,a98⟩,⟨a99,a100⟩,⟨a101,a102⟩,⟨a103,a104⟩,a105,a106⟩,⟨⟨a107,a108⟩,⟨a109,a110⟩,⟨a111,a112⟩,⟨a113,a114⟩,a115,a116⟩,⟨⟨a117,a118⟩,⟨a119,a120⟩,⟨a121,a122⟩,⟨a123,a124⟩,a125,a126⟩,⟨⟨a127,a128⟩,⟨a129,a130⟩,⟨a131,a132⟩,⟨a133,a134⟩,a135,a136⟩,⟨⟨a137,a138⟩,⟨a139,a140⟩,⟨a141,a142⟩,⟨a143,a144⟩,a145,a146⟩,⟨⟨a147,a148⟩,⟨a149,a150⟩,⟨a151,a152⟩,⟨a153,a154⟩,a155,a156⟩,⟨⟨a157,a158⟩,⟨a159,a160⟩,⟨a161,a162⟩,⟨a163,a164⟩,a165,a166⟩,⟨⟨a167,a168⟩,⟨a169,a170⟩,⟨a171,a172⟩,⟨a173,a174⟩,a175,a176⟩,⟨⟨a177,a178⟩,⟨a179,a180⟩,⟨a181,a182⟩,⟨a183,a184⟩,a185,a186⟩,⟨⟨a187,a188⟩,⟨a189,a190⟩,⟨a191,a192⟩,⟨a193,a194⟩,a195,a196⟩,⟨⟨a197,a198⟩,⟨a199,a200⟩,⟨a201,a202⟩,⟨a203,a204⟩,a205,a206⟩,⟨⟨a207,a208⟩,⟨a209,a210⟩,⟨a211,a212⟩,⟨a213,a214⟩,a215,a216⟩,⟨⟨a217,a218⟩,⟨a219,a220⟩,⟨a221,a222⟩,⟨a223,a224⟩,a225,a226⟩,⟨⟨a227,a228⟩,⟨a229,a230⟩,⟨a231,a232⟩,⟨a233,a234⟩,a235,a236⟩,⟨⟨a237,a238⟩,⟨a239,a240⟩,⟨a241,a242⟩,⟨a243,a244⟩,a245,a246⟩,⟨⟨a247,a248⟩,⟨a249,a250⟩,⟨a251,a252⟩,⟨a253,a254⟩,a255,a256⟩,⟨⟨a257,a258⟩,⟨a259,a260⟩,⟨a261,a262⟩,⟨a263,a264⟩,a265,a266⟩,⟨⟨a267,a268⟩,⟨a269,a270⟩,⟨a271,a272⟩,⟨a273,a274⟩,a275,a276⟩,⟨⟨a277,a278⟩,⟨a279,a280⟩,⟨a281,a282⟩,⟨a283,a284⟩,a285,a286⟩,⟨⟨a287,a288⟩,⟨a289,a290⟩,⟨a291,a292⟩,⟨a293,a294⟩,a295,a296⟩,⟨⟨a297,a298⟩,⟨a299,a300⟩,⟨a301,a302⟩,⟨a303,a304⟩,a305,a306⟩,⟨⟨a307,a308⟩,⟨a309,a310⟩,⟨a311,a312⟩,⟨a313,a314⟩,a315,a316⟩,⟨⟨a317,a318⟩,⟨a319,a320⟩,⟨a321,a322⟩,⟨a323,a324⟩,a325,a326⟩,⟨⟨a327,a328⟩,⟨a329,a330⟩,⟨a331,a332⟩,⟨a333,a334⟩,a335,a336⟩,⟨⟨a337,a338⟩,⟨a339,a340⟩,⟨a341,a342⟩,⟨a343,a344⟩,a345,a346⟩,⟨⟨a347,a348⟩,⟨a349,a350⟩,⟨a351,a352⟩,⟨a353,a354⟩,a355,a356⟩,⟨⟨a357,a358⟩,⟨a359,a360⟩,⟨a361,a362⟩,⟨a363,a364⟩,a365,a366⟩,⟨⟨a367,a368⟩,⟨a369,a370⟩,⟨a371,a372⟩,⟨a373,a374⟩,a375,a376⟩,⟨⟨a377,a378⟩,⟨a379,a380⟩,⟨a381,a382⟩,⟨a383,a384⟩,a385,a386⟩,⟨⟨a387,a388⟩,⟨a389,a390⟩,⟨a391,a392⟩,⟨a393,a394⟩,a395,a396⟩,⟨⟨a397,a398⟩,⟨a399,a400⟩,⟨a401,a402⟩,⟨a403,a404⟩,a405,a406⟩,⟨⟨a407,a408⟩,⟨a409,a410⟩,⟨a411,a412⟩,⟨a413,a414⟩,a415,a416⟩,⟨⟨a417,a418⟩,⟨a419,a420⟩,⟨a421,a422⟩,⟨a423,a424⟩,a425,a426⟩,⟨⟨a427,a428⟩,⟨a429,a430⟩,⟨a431,a432⟩,⟨a433,a434⟩,a435,a436⟩,⟨⟨a437,a438⟩,⟨a439,a440⟩,⟨a441,a442⟩,⟨a443,a444⟩,a445,a446⟩,⟨⟨a447,a448⟩,⟨a449,a450⟩,⟨a451,a452⟩,⟨a453,a454⟩,a455,a456⟩,⟨⟨a457,a458⟩,⟨a459,a460⟩,⟨a461,a462⟩,⟨a463,a464⟩,a465,a466⟩,⟨⟨a467,a468⟩,⟨a469,a470⟩,⟨a471,a472⟩,⟨a473,a474⟩,a475,a476⟩,⟨⟨a477,a478⟩,⟨a479,a480⟩,⟨a481,a482⟩,⟨a483,a484⟩,a485,a486⟩,⟨⟨a487,a488⟩,⟨a489,a490⟩,⟨a491,a492⟩,⟨a493,a494⟩,a495,a496⟩,⟨⟨a497,a498⟩,⟨a499,a500⟩,⟨a501,a502⟩,⟨a503,a504⟩,a505,a506⟩,⟨⟨a507,a508⟩,⟨a509,a510⟩,⟨a511,a512⟩,⟨a513,a514⟩,a515,a516⟩,⟨⟨a517,a518⟩,⟨a519,a520⟩,⟨a521,a522⟩,⟨a523,a524⟩,a525,a526⟩,⟨⟨a527,a528⟩,⟨a529,a530⟩,⟨a531,a532⟩,⟨a533,a534⟩,a535,a536⟩⟩,h3,h⟩:=sm h
  obtain⟨h4,h⟩:=ck h
  rcases h5:([(zm.mk (GT105.mk a17 a18) (GT105.mk a19 a20) (GT105.mk a21 a22) (GT105.mk a23 a24) a25 a26),(zm.mk (GT105.mk a27 a28) (GT105.mk a29 a30) (GT105.mk a31 a32) (GT105.mk a33 a34) a35 a36),(zm.mk (GT105.mk a37 a38) (GT105.mk a39 a40) (GT105.mk a41 a42) (GT105.mk a43 a44) a45 a46),(zm.mk (GT105.mk a47 a48) (GT105.mk a49 a50) (GT105.mk a51 a52) (GT105.mk a53 a54) a55 a56),(zm.mk (GT105.mk a57 a58) (GT105.mk a59 a60) (GT105.mk a61 a62) (GT105.mk a63 a64) a65 a66),(zm.mk (GT105.mk a67 a68) (GT105.mk a69 a70) (GT105.mk a71 a72) (GT105.mk a73 a74) a75 a76),(zm.mk (GT105.mk a77 a78) (GT105.mk a79 a80) (GT105.mk a81 a82) (GT105.mk a83 a84) a85 a86),(zm.mk (GT105.mk a87 a88) (GT105.mk a89 a90) (GT105.mk a91 a92) (GT105.mk a93 a94) a95 a96),(zm.mk (GT105.mk a97 a98) (GT105.mk a99 a100) (GT105.mk a101 a102) (GT105.mk a103 a104) a105 a106),(zm.mk (GT105.mk a107 a108) (GT105.mk a109 a110) (GT105.mk a111 a112) (GT105.mk a113 a114) a115 a116),(zm.mk (GT105.mk a117 a118) (GT105.mk a119 a120) (GT105.mk a121 a122) (GT105.mk a123 a124) a125 a126),(zm.mk (GT105.mk a127 a128) (GT105.mk a129 a130) (GT105.mk a131 a132) (GT105.mk a133 a134) a135 a136),(zm.mk (GT105.mk a137 a138) (GT105.mk a139 a140) (GT105.mk a141 a142) (GT105.mk a143 a144) a145 a146),(zm.mk (GT105.mk a147 a148) (GT105.mk a149 a150) (GT105.mk a151 a152) (GT105.mk a153 a154) a155 a156),(zm.mk (GT105.mk a157 a158) (GT105.mk a159 a160) (GT105.mk a161 a162) (GT105.mk a163 a164) a165 a166),(zm.mk (GT105.mk a167 a168) (GT105.mk a169 a170) (GT105.mk a171 a172) (GT105.mk a173 a174) a175 a176),(zm.mk (GT105.mk a177 a178) (GT105.mk a179 a180) (GT105.mk a181 a182) (GT105.mk a183 a184) a185 a186),(zm.mk (GT105.mk a187 a188) (GT105.mk a189 a190) (GT105.mk a191 a192) (GT105.mk a193 a194) a195 a196),(zm.mk (GT105.mk a197 a198) (GT105.mk a199 a200) (GT105.mk a201 a202) (GT105.mk a203 a204) a205 a206),(zm.mk (GT105.mk a207 a208) (GT105.mk a209 a210) (GT105.mk a211 a212) (GT105.mk a213 a214) a215 a216),(zm.mk (GT105.mk a217 a218) (GT105.mk a219 a220) (GT105.mk a221 a222) (GT105.mk a223 a224) a225 a226),(zm.mk (GT105.mk a227 a228) (GT105.mk a229 a230) (GT105.mk a231 a232) (GT105.mk a233 a234) a235 a236),(zm.mk (GT105.mk a237 a238) (GT105.mk a239 a240) (GT105.mk a241 a242) (GT105.mk a243 a244) a245 a246),(zm.mk (GT105.mk a247 a248) (GT105.mk a249 a250) (GT105.mk a251 a252) (GT105.mk a253 a254) a255 a256),(zm.mk (GT105.mk a257 a258) (GT105.mk a259 a260) (GT105.mk a261 a262) (GT105.mk a263 a264) a265 a266),(zm.mk (GT105.mk a267 a268) (GT105.mk a269 a270) (GT105.mk a271 a272) (GT105.mk a273 a274) a275 a276),(zm.mk (GT105.mk a277 a278) (GT105.mk a279 a280) (GT105.mk a281 a282) (GT105.mk a283 a284) a285 a286),(zm.mk (GT105.mk a287 a288) (GT105.mk a289 a290) (GT105.mk a291 a292) (GT105.mk a293 a294) a295 a296),(zm.mk (GT105.mk a297 a298) (GT105.mk a299 a300) (GT105.mk a301 a302) (GT105.mk a303 a304) a305 a306),(zm.mk (GT105.mk a307 a308) (GT105.mk a309 a310) (GT105.mk a311 a312) (GT105.mk a313 a314) a315 a316),(zm.mk (GT105.mk a317 a318) (GT105.mk a319 a320) (GT105.mk a321 a322) (GT105.mk a323 a324) a325 a326),(zm.mk (GT105.mk a327 a328) (GT105.mk a329 a330) (GT105.mk a331 a332) (GT105.mk a333 a334) a335 a336),(zm.mk (GT105.mk a337 a338) (GT105.mk a339 a340) (GT105.mk a341 a342) (GT105.mk a343 a344) a345 a346),(zm.mk (GT105.mk a347 a348) (GT105.mk a349 a350) (GT105.mk a351 a352) (GT105.mk a353 a354) a355 a356),(zm.mk (GT105.mk a357 a358) (GT105.mk a359 a360) (GT105.mk a361 a362) (GT105.mk a363 a364) a365 a366),(zm.mk (GT105.mk a367 a368) (GT105.mk a369 a370) (GT105.mk a371 a372) (GT105.mk a373 a374) a375 a376),(zm.mk (GT105.mk a377 a378) (GT105.mk a379 a380) (GT105.mk a381 a382) (GT105.mk a383 a384) a385 a386),(zm.mk (GT105.mk a387 a388) (GT105.mk a389 a390) (GT105.mk a391 a392) (GT105.mk a393 a394) a395 a396),(zm.mk (GT105.mk a397 a398) (GT105.mk a399 a400) (GT105.mk a401 a402) (GT105.mk a403 a404) a405 a406),(zm.mk (GT105.mk a407 a408) (GT105.mk a409 a410) (GT105.mk a411 a412) (GT105.mk a413 a414) a415 a416),(zm.mk (GT105.mk a417 a418) (GT105.mk a419 a420) (GT105.mk a421 a422) (GT105.mk a423 a424) a425 a426),(zm.mk (GT105.mk a427 a428) (GT105.mk a429 a430) (GT105.mk a431 a432) (GT105.mk a433 a434) a435 a436),(zm.mk (GT105.mk a437 a438) (GT105.mk a439 a440) (GT105.mk a441 a442) (GT105.mk a443 a444) a445 a446),(zm.mk (GT105.mk a447 a448) (GT105.mk a449 a450) (GT105.mk a451 a452) (GT105.mk a453 a454) a455 a456),(zm.mk (GT105.mk a457 a458) (GT105.mk a459 a460) (GT105.mk a461 a462) (GT105.mk a463 a464) a465 a466),(zm.mk (GT105.mk a467 a468) (GT105.mk a469 a470) (GT105.mk a471 a472) (GT105.mk a473 a474) a475 a476),(zm.mk (GT105.mk a477 a478) (GT105.mk a479 a480) (GT105.mk a481 a482) (GT105.mk a483 a484) a485 a486),(zm.mk (GT105.mk a487 a488) (GT105.mk a489 a490) (GT105.mk a491 a492) (GT105.mk a493 a494) a495 a496),(zm.mk (GT105.mk a497 a498) (GT105.mk a499 a500) (GT105.mk a501 a502) (GT105.mk a503 a504) a505 a506),(zm.mk (GT105.mk a507 a508) (GT105.mk a509 a510) (GT105.mk a511 a512) (GT105.mk a513 a514) a515 a516),(zm.mk (GT105.mk a517 a518) (GT105.mk a519 a520) (GT105.mk a521 a522) (GT105.mk a523 a524) a525 a526),(zm.mk (GT105.mk a527 a528) (GT105.mk a529 a530) (GT105.mk a531 a532) (GT105.mk a533 a534) a535 a536)]:List zm)[(a1:Int).toNat]? with _ | ⟨⟨a537,a538⟩,⟨a539,a540⟩,⟨a541,a542⟩,⟨a543,a544⟩,a545,a546⟩
  ·rw[h5]at h;cases h
  rw[h5]at h
  dsimp only at h
  obtain⟨a547,h6,h⟩:=sm h
  have o7 {os} (x:Obls (env Tryd.prog 50 Tryd.f50 (run Tryd.prog own kp X n)) n os):=zaa (ht.zdk _ _ h1) (zk h2 (zaa (ht.zcx _ h3) (zaq h4 (zan (zu zm.zl h5) (zG (zo zF (l:=a2)) (zaa (ht.zdv _ _ _ h6) x))))))
  rcases fk h with ⟨h7,h⟩ | ⟨h7,h⟩
  ·obtain⟨a548,h8,h⟩:=sm h
   have o17 {os} (x:Obls (env Tryd.prog 50 Tryd.f50 (run Tryd.prog own kp X n)) n os):=o7 (zV (ng h7) (zG (zo zw (l:=a3)) (zV (ng h7) (zaa (ht.zdv _ _ _ h8) (zaG (ng h7) x)))))
   rcases fk h with ⟨h9,h⟩ | ⟨h9,h⟩
   ·obtain⟨a549,h10,h⟩:=sm h
    have o27 {os} (x:Obls (env Tryd.prog 50 Tryd.f50 (run Tryd.prog own kp X n)) n os):=o17 (zV (ng h9) (zG (zo zy (l:=a12)) (zV (ng h9) (zaa (ht.zdv _ _ _ h10) (zaG (ng h9) x)))))
    rcases fk h with ⟨h11,h⟩ | ⟨h11,h⟩
    ·obtain⟨a550,h12,h⟩:=sm h
     have o37 {os} (x:Obls (env Tryd.prog 50 Tryd.f50 (run Tryd.prog own kp X n)) n os):=o27 (zV (ng h11) (zG (zo GBy.zl (l:=a13)) (zV (ng h11) (zaa (ht.zdv _ _ _ h12) (zaG (ng h11) x)))))
     rcases fk h with ⟨h13,h⟩ | ⟨h13,h⟩
     ·obtain⟨a551 | ⟨a552,a553,a554,a555,a556,a557,a558,a559,a560,a561,a562,a563,a564,a565,a566⟩,h14,h⟩:=sm h
      ·cases h
       exact zi Tryd.func50 (o37 (zV (ng h13) (zG (zo zF (l:=a14)) (zaG (ng h13) (zau (zaz.ok ht n _ _ _ _ _ _ _ _ _ _ _ _ _ _ _ _ _ _ _ _ _ _ _ _ _ _ _ h14) ob))))) (by kernel_rfl)
      ·obtain⟨a567,rfl⟩:∃z_,z_=r:=⟨_,rfl⟩
       have h15:=h
       exact zi Tryd.func50 (o37 (zV (ng h13) (zG (zo zF (l:=a14)) (zaG (ng h13) (zau (zaz.ok ht n _ _ _ _ _ _ _ _ _ _ _ _ _ _ _ _ _ _ _ _ _ _ _ _ _ _ _ h14) (zau (zbQ.ok ht n _ _ _ _ _ _ _ _ _ _ _ _ _ _ _ _ h15) ob)))))) (by kernel_rfl)
     ·obtain⟨a568 | ⟨a569,a570,a571,a572,a573,a574,a575,a576,a577,a578,a579,a580,a581,a582,a583⟩,h16,h⟩:=sm h
      ·cases h
       exact zi Tryd.func50 (o37 (zax (ng h13) 5 (zau (zaz.ok ht n _ _ _ _ _ _ _ _ _ _ _ _ _ _ _ _ _ _ _ _ _ _ _ _ _ _ _ h16) ob))) (by kernel_rfl)
      ·obtain⟨a584,rfl⟩:∃z_,z_=r:=⟨_,rfl⟩
       have h17:=h
       exact zi Tryd.func50 (o37 (zax (ng h13) 5 (zau (zaz.ok ht n _ _ _ _ _ _ _ _ _ _ _ _ _ _ _ _ _ _ _ _ _ _ _ _ _ _ _ h16) (zau (zbQ.ok ht n _ _ _ _ _ _ _ _ _ _ _ _ _ _ _ _ h17) ob)))) (by kernel_rfl)
    ·have o40 {os} (x:Obls (env Tryd.prog 50 Tryd.f50 (run Tryd.prog own kp X n)) n os):=o27 (zax (ng h11) 8 (zdp 5 x))
     obtain⟨a585 | ⟨a586,a587,a588,a589,a590,a591,a592,a593,a594,a595,a596,a597,a598,a599,a600⟩,h18,h⟩:=sm h
     ·cases h
      exact zi Tryd.func50 (o40 (zau (zaz.ok ht n _ _ _ _ _ _ _ _ _ _ _ _ _ _ _ _ _ _ _ _ _ _ _ _ _ _ _ h18) ob)) (by kernel_rfl)
     ·obtain⟨a601,rfl⟩:∃z_,z_=r:=⟨_,rfl⟩
      have h19:=h
      exact zi Tryd.func50 (o40 (zau (zaz.ok ht n _ _ _ _ _ _ _ _ _ _ _ _ _ _ _ _ _ _ _ _ _ _ _ _ _ _ _ h18) (zau (zbQ.ok ht n _ _ _ _ _ _ _ _ _ _ _ _ _ _ _ _ h19) ob))) (by kernel_rfl)
   ·have o38 {os} (x:Obls (env Tryd.prog 50 Tryd.f50 (run Tryd.prog own kp X n)) n os):=o17 (zax (ng h9) 8 (zdp 13 x))
    obtain⟨a602 | ⟨a603,a604,a605,a606,a607,a608,a609,a610,a611,a612,a613,a614,a615,a616,a617⟩,h20,h⟩:=sm h
    ·cases h
     exact zi Tryd.func50 (o38 (zau (zaz.ok ht n _ _ _ _ _ _ _ _ _ _ _ _ _ _ _ _ _ _ _ _ _ _ _ _ _ _ _ h20) ob)) (by kernel_rfl)
    ·obtain⟨a618,rfl⟩:∃z_,z_=r:=⟨_,rfl⟩
     have h21:=h
     exact zi Tryd.func50 (o38 (zau (zaz.ok ht n _ _ _ _ _ _ _ _ _ _ _ _ _ _ _ _ _ _ _ _ _ _ _ _ _ _ _ h20) (zau (zbQ.ok ht n _ _ _ _ _ _ _ _ _ _ _ _ _ _ _ _ h21) ob))) (by kernel_rfl)
  ·have o36 {os} (x:Obls (env Tryd.prog 50 Tryd.f50 (run Tryd.prog own kp X n)) n os):=o7 (zax (ng h7) 8 (zdp 21 x))
   obtain⟨a619 | ⟨a620,a621,a622,a623,a624,a625,a626,a627,a628,a629,a630,a631,a632,a633,a634⟩,h22,h⟩:=sm h
   ·cases h
    exact zi Tryd.func50 (o36 (zau (zaz.ok ht n _ _ _ _ _ _ _ _ _ _ _ _ _ _ _ _ _ _ _ _ _ _ _ _ _ _ _ h22) ob)) (by kernel_rfl)
   ·obtain⟨a635,rfl⟩:∃z_,z_=r:=⟨_,rfl⟩
    have h23:=h
    exact zi Tryd.func50 (o36 (zau (zaz.ok ht n _ _ _ _ _ _ _ _ _ _ _ _ _ _ _ _ _ _ _ _ _ _ _ _ _ _ _ h22) (zau (zbQ.ok ht n _ _ _ _ _ _ _ _ _ _ _ _ _ _ _ _ h23) ob))) (by kernel_rfl)
theorem zdy.ok {n:Nat} {t:Tab} (ht:TabOk t (run Tryd.prog own kp X n)):∀(p1:zh) (p2:zh) r,zdy t n p1 p2=some r→run Tryd.prog own kp X (n+1) 56 [(.t (zh.t p1)),(.t (zh.t p2))] []=some ((I6 r),[]):=by
 intro p1 p2 r h
 obtain⟨a1,a2,a3,a4,a5⟩:=p1
 obtain⟨a6,a7,a8,a9,a10⟩:=p2
 rw[zdy]at h
 obtain⟨a11,rfl⟩:∃z_,z_=r:=⟨_,rfl⟩
 have h1:=h
 exact zi Tryd.func56 (zaa (ht.zbp _ _ _ _ h1) ob) (by kernel_rfl)
theorem zY.okL (ht:TabOk t call) (n:Nat):∀(k:Nat) (a1 a2:List zh) (a3 a4:Int) (r:_),zY t n k a1 a2 a3 a4=some r→loopN (exec (env Tryd.prog 57 Tryd.f57 call) n (sub [1,1,0,1,0,0] (zt Tryd.f57))) k (mkSt 32 32 [(1,(Sl 5 (zh.ts a1))),(2,(.fn 42 [])),(15,(Sl 5 (zh.ts a2))),(16,(I6 a3)),(17,(I6 a4))] [])=some (zY.to r)
 | 0,a1,a2,a3,a4,r,h=>by rw[zY]at h;cases h
 | k+1,a1,a2,a3,a4,r,h=>by
  rw[zY]at h
  rcases fk h with ⟨h1,h⟩ | ⟨h1,h⟩
  ·obtain⟨h2,h⟩:=ck h
   obtain⟨⟨a5,a6,a7,a8,a9⟩,h3,h⟩:=sm h
   obtain⟨⟨a10,a11,a12,a13,a14⟩,h4,h⟩:=sm h
   obtain⟨a15,h5,h⟩:=sm h
   rcases fk h with ⟨h6,h⟩ | ⟨h6,h⟩
   ·exact zM (path (zk h1 (zaq h2 (zan (zu zh.zl h3) (zaq h2 (zan (zu zh.zl h4) (zaa (ht.zbh _ _ _ h5) (zk (ng h6) ob))))))) (by kernel_rfl)) (zY.okL ht n k _ _ _ _ _ h)
   ·cases h
    exact zx (path (zk h1 (zaq h2 (zan (zu zh.zl h3) (zaq h2 (zan (zu zh.zl h4) (zaa (ht.zbh _ _ _ h5) (zk (ng h6) ob))))))) (by kernel_rfl)) (fun h=>by cases h)
  ·cases h
   exact zx (path (zk h1 ob) (by kernel_rfl)) (fun h=>by cases h)
theorem zad.ok {n:Nat} {t:Tab} (ht:TabOk t (run Tryd.prog own kp X n)):∀(p1:List zh) (p2:List zh) r,zad t n p1 p2=some r→run Tryd.prog own kp X (n+1) 57 [(Sl 5 (zh.ts p1)),(Sl 5 (zh.ts p2)),(.fn 42 [])] []=some ((Bo r),[]):=by
 intro p1 p2 r h
 obtain⟨a1,rfl⟩:∃z_,z_=p1:=⟨_,rfl⟩
 obtain⟨a2,rfl⟩:∃z_,z_=p2:=⟨_,rfl⟩
 rw[zad]at h
 have o2 {os} (x:Obls (env Tryd.prog 57 Tryd.f57 (run Tryd.prog own kp X n)) n os):=zG (zo zh.zl (l:=a1)) (zG (zo zh.zl (l:=a2)) x)
 rcases fk h with ⟨h1,h⟩ | ⟨h1,h⟩
 ·cases h
  exact zi Tryd.func57 (o2 (zk h1 ob)) (by kernel_rfl)
 ·obtain⟨a3 | ⟨a4,a5,a6,a7,a8⟩,h2,h⟩:=sm h
  ·cases h
   exact zi Tryd.func57 (o2 (zk h1 (zG (zo zh.zl (l:=a1)) (zbj (lk (sub [1,1,0,1,0] (zt Tryd.f57)) (by kernel_rfl) (zY.okL ht n n _ _ _ _ _ h2)) ob)))) (by kernel_rfl)
  ·cases h
   exact zi Tryd.func57 (o2 (zk h1 (zG (zo zh.zl (l:=a1)) (zbj (lk (sub [1,1,0,1,0] (zt Tryd.f57)) (by kernel_rfl) (zY.okL ht n n _ _ _ _ _ h2)) ob)))) (by kernel_rfl)
theorem zH.okL (ht:TabOk t call) (n:Nat):∀(k:Nat) (a1 a2:List GPred) (a3 a4:Int) (r:_),zH t n k a1 a2 a3 a4=some r→loopN (exec (env Tryd.prog 58 Tryd.f58 call) n (sub [1,1,0,1,0,0] (zt Tryd.f58))) k (mkSt 32 32 [(1,(Sl 3 (GPred.ts a1))),(2,(.fn 43 [])),(15,(Sl 3 (GPred.ts a2))),(16,(I6 a3)),(17,(I6 a4))] [])=some (zH.to r)
 | 0,a1,a2,a3,a4,r,h=>by rw[zH]at h;cases h
 | k+1,a1,a2,a3,a4,r,h=>by
  rw[zH]at h
  rcases fk h with ⟨h1,h⟩ | ⟨h1,h⟩
  ·obtain⟨h2,h⟩:=ck h
   obtain⟨⟨a5,a6,a7⟩,h3,h⟩:=sm h
   obtain⟨⟨a8,a9,a10⟩,h4,h⟩:=sm h
   obtain⟨a11,h5,h⟩:=sm h
   rcases fk h with ⟨h6,h⟩ | ⟨h6,h⟩
   ·exact zM (path (zk h1 (zaq h2 (zan (zu GPred.zl h3) (zaq h2 (zan (zu GPred.zl h4) (zaa (ht.zaS _ _ _ h5) (zk (ng h6) ob))))))) (by kernel_rfl)) (zH.okL ht n k _ _ _ _ _ h)
   ·cases h
    exact zx (path (zk h1 (zaq h2 (zan (zu GPred.zl h3) (zaq h2 (zan (zu GPred.zl h4) (zaa (ht.zaS _ _ _ h5) (zk (ng h6) ob))))))) (by kernel_rfl)) (fun h=>by cases h)
  ·cases h
   exact zx (path (zk h1 ob) (by kernel_rfl)) (fun h=>by cases h)
theorem zZ.ok {n:Nat} {t:Tab} (ht:TabOk t (run Tryd.prog own kp X n)):∀(p1:List GPred) (p2:List GPred) r,zZ t n p1 p2=some r→run Tryd.prog own kp X (n+1) 58 [(Sl 3 (GPred.ts p1)),(Sl 3 (GPred.ts p2)),(.fn 43 [])] []=some ((Bo r),[]):=by
 intro p1 p2 r h
 obtain⟨a1,rfl⟩:∃z_,z_=p1:=⟨_,rfl⟩
 obtain⟨a2,rfl⟩:∃z_,z_=p2:=⟨_,rfl⟩
 rw[zZ]at h
 rcases fk h with ⟨h1,h⟩ | ⟨h1,h⟩
 ·cases h
  exact zi Tryd.func58 (zG (zo GPred.zl (l:=a1)) (zG (zo GPred.zl (l:=a2)) (zk h1 ob))) (by kernel_rfl)
 ·obtain⟨a3 | ⟨a4,a5,a6,a7,a8⟩,h2,h⟩:=sm h
  ·cases h
   exact zi Tryd.func58 (zG (zo GPred.zl (l:=a1)) (zG (zo GPred.zl (l:=a2)) (zk h1 (zG (zo GPred.zl (l:=a1)) (zbj (lk (sub [1,1,0,1,0] (zt Tryd.f58)) (by kernel_rfl) (zH.okL ht n n _ _ _ _ _ h2)) ob))))) (by kernel_rfl)
  ·cases h
   exact zi Tryd.func58 (zG (zo GPred.zl (l:=a1)) (zG (zo GPred.zl (l:=a2)) (zk h1 (zG (zo GPred.zl (l:=a1)) (zbj (lk (sub [1,1,0,1,0] (zt Tryd.f58)) (by kernel_rfl) (zH.okL ht n n _ _ _ _ _ h2)) ob))))) (by kernel_rfl)
theorem zdk.ok {n:Nat} {t:Tab} (ht:TabOk t (run Tryd.prog own kp X n)):∀(p1:Int) r,zdk t n p1=some r→run Tryd.prog own kp X (n+1) 64 [(I6 p1)] []=some ((Sr r),[]):=by
 intro p1 r h
 obtain⟨a1,rfl⟩:∃z_,z_=p1:=⟨_,rfl⟩
 rw[zdk]at h
 rcases fk h with ⟨h1,h⟩ | ⟨h1,h⟩
 ·cases h
  exact zi Tryd.func64 (zV h1 (zdp 1 ob)) (by kernel_rfl)
 ·rcases fk h with ⟨h2,h⟩ | ⟨h2,h⟩
  ·cases h
   exact zi Tryd.func64 (zV h1 (zk h2 ob)) (by kernel_rfl)
  ·obtain⟨h3,h⟩:=ck h
   rcases h4:gl0[(a1:Int).toNat]? with _ | a2
   ·rw[h4]at h;cases h
   rw[h4]at h
   dsimp only at h
   cases h
   exact zi Tryd.func64 (zV h1 (zk h2 (zaq h3 (zan (zu zF h4) ob)))) (by kernel_rfl)
theorem zcx.ok {n:Nat} {t:Tab} (ht:TabOk t (run Tryd.prog own kp X n)):∀r,zcx t n=some r→run Tryd.prog own kp X (n+1) 65 [] []=some ((.t (GT108.t r)),[]):=by
 intro r h
 rw[zcx]at h
 cases h
 exact zi Tryd.func65 ob (by kernel_rfl)
theorem zdv.ok {n:Nat} {t:Tab} (ht:TabOk t (run Tryd.prog own kp X n)):∀(p1:Int) (p2:GT105) r,zdv t n p1 p2=some r→run Tryd.prog own kp X (n+1) 68 [(I6 p1),(.t (GT105.t p2))] []=some ((Bo r),[]):=by
 intro p1 p2 r h
 obtain⟨a1,rfl⟩:∃z_,z_=p1:=⟨_,rfl⟩
 obtain⟨a2,a3⟩:=p2
 rw[zdv]at h
 rcases fk h with ⟨h1,h⟩ | ⟨h1,h⟩
 ·cases h
  exact zi Tryd.func68 (zax h1 5 ob) (by kernel_rfl)
 ·cases h
  exact zi Tryd.func68 (zax h1 5 ob) (by kernel_rfl)
theorem zA.ok {n:Nat} {t:Tab} (ht:TabOk t (run Tryd.prog own kp X n)):∀(p1:List ByteArray) r,zA t n p1=some r→run Tryd.prog own kp X (n+1) 69 [(Sl 1 (texts p1)),(.fn 66 [])] []=some ((Bo r),[]):=by
 intro p1 r h
 obtain⟨a1,rfl⟩:∃z_,z_=p1:=⟨_,rfl⟩
 rw[zA]at h
 obtain⟨a2,h1,h⟩:=sm h
 cases h
 exact zi Tryd.func69 (zaa (ht.zal _ _ h1) ob) (by kernel_rfl)
theorem zbR.ok {n:Nat} {t:Tab} (ht:TabOk t (run Tryd.prog own kp X n)):∀(p1:zh) r,zbR t n p1=some r→run Tryd.prog own kp X (n+1) 71 [(.t (zh.t p1))] []=some ((I6 r),[]):=by
 intro p1 r h
 obtain⟨a1,a2,a3,a4,a5⟩:=p1
 rw[zbR]at h
 obtain⟨a6,h1,h⟩:=sm h
 rcases fk h with ⟨h2,h⟩ | ⟨h2,h⟩
 ·cases h
  exact zi Tryd.func71 (zaa (ht.zbq _ _ _ h1) (zk (ng h2) ob)) (by kernel_rfl)
 ·cases h
  exact zi Tryd.func71 (zaa (ht.zbq _ _ _ h1) (zk (ng h2) ob)) (by kernel_rfl)
theorem zcO.ok {n:Nat} {t:Tab} (ht:TabOk t (run Tryd.prog own kp X n)):∀(p1:GPred) r,zcO t n p1=some r→run Tryd.prog own kp X (n+1) 72 [(.t (GPred.t p1))] []=some ((I6 r),[]):=by
 intro p1 r h
 obtain⟨a1,a2,a3⟩:=p1
 rw[zcO]at h
 obtain⟨a4,h1,h⟩:=sm h
 rcases fk h with ⟨h2,h⟩ | ⟨h2,h⟩
 ·cases h
  exact zi Tryd.func72 (zaa (ht.zcq _ _ _ h1) (zk (ng h2) ob)) (by kernel_rfl)
 ·cases h
  exact zi Tryd.func72 (zaa (ht.zcq _ _ _ h1) (zk (ng h2) ob)) (by kernel_rfl)
theorem zb6.okL (ht:TabOk t call) (n:Nat):∀(k:Nat) (a1 a2:List ByteArray) (a3 a4:Int) (r:_),zb6 t n k a1 a2 a3 a4=some r→loopN (exec (env Tryd.prog 74 Tryd.f74 call) n (sub [1,0,1,0,0] (zt Tryd.f74))) k (mkSt 18 18 [(0,(Sl 1 (texts a1))),(5,(Sl 1 (texts a2))),(6,(I6 a3)),(7,(I6 a4))] [])=some (zb6.to r)
 | 0,a1,a2,a3,a4,r,h=>by rw[zb6]at h;cases h
 | k+1,a1,a2,a3,a4,r,h=>by
  rw[zb6]at h
  rcases fk h with ⟨h1,h⟩ | ⟨h1,h⟩
  ·obtain⟨h2,h⟩:=ck h
   obtain⟨a5,h3,h⟩:=sm h
   obtain⟨h4,h⟩:=ck h
   obtain⟨a6,h5,h⟩:=sm h
   have o6 {os} (x:Obls (env Tryd.prog 74 Tryd.f74 call) n os):=zk h1 (zaq h2 (zan (zu zF h3) (zaq (znX zF h4) (zfb (zpP zF (l:=a1) (h:=(a4:Int).toNat) (i:=(0:Int).toNat)) (zaa (ht.slices_Contains_string _ _ _ h5) x)))))
   rcases fk h with ⟨h6,h⟩ | ⟨h6,h⟩
   ·cases h
    exact zx (path (o6 (zk h6 ob)) (by kernel_rfl)) (fun h=>by cases h)
   ·exact zM (path (o6 (zk h6 ob)) (by kernel_rfl)) (zb6.okL ht n k _ _ _ _ _ h)
  ·cases h
   exact zx (path (zk h1 ob) (by kernel_rfl)) (fun h=>by cases h)
theorem zcp.ok {n:Nat} {t:Tab} (ht:TabOk t (run Tryd.prog own kp X n)):∀(p1:List ByteArray) r,zcp t n p1=some r→run Tryd.prog own kp X (n+1) 74 [(Sl 1 (texts p1))] []=some ((Bo r),[]):=by
 intro p1 r h
 obtain⟨a1,rfl⟩:∃z_,z_=p1:=⟨_,rfl⟩
 rw[zcp]at h
 obtain⟨a2 | ⟨a3,a4,a5,a6,a7⟩,h1,h⟩:=sm h
 ·cases h
  exact zi Tryd.func74 (zG (zo zF (l:=a1)) (zbj (lk (sub [1,0,1,0] (zt Tryd.f74)) (by kernel_rfl) (zb6.okL ht n n _ _ _ _ _ h1)) ob)) (by kernel_rfl)
 ·cases h
  exact zi Tryd.func74 (zG (zo zF (l:=a1)) (zbj (lk (sub [1,0,1,0] (zt Tryd.f74)) (by kernel_rfl) (zb6.okL ht n n _ _ _ _ _ h1)) ob)) (by kernel_rfl)
theorem zcB.ok {n:Nat} {t:Tab} (ht:TabOk t (run Tryd.prog own kp X n)):∀(p1:GPred) r,zcB t n p1=some r→run Tryd.prog own kp X (n+1) 73 [(.t (GPred.t p1))] []=some ((Bo r),[]):=by
 intro p1 r h
 obtain⟨a1,a2,a3⟩:=p1
 rw[zcB]at h
 rcases fk h with ⟨h1,h⟩ | ⟨h1,h⟩
 ·cases h
  exact zi Tryd.func73 (zV h1 (zG (zo zh.zl (l:=a2)) (zV h1 (zG (zo GPred.zl (l:=a3)) (zV h1 ob))))) (by kernel_rfl)
 ·cases h
  exact zi Tryd.func73 (zax h1 9 ob) (by kernel_rfl)
theorem zao.ok (ht:TabOk t call) (n:Nat) (a1:Bool) (a2:Int) (a3:List ByteArray) (a4:List Int) (a5 a6:Int) (a7:ByteArray) (a8 a9:List zh) (a10:Int) (a11:List zh) (a12:List GPred) (a13:List (List GStep)) (a14:List GBy) (a15:List ByteArray) (r:_) (h:zao t n a1 a2 a3 a4 a5 a6 a7 a8 a9 a10 a11 a12 a13 a14 a15=some r):exec (env Tryd.prog 70 Tryd.f70 call) n (sub [1,0,1,0,1,1,1,1,1] (zt Tryd.f70)) (mkSt 78 78 [(1,(.ptr 1 0 [] 0)),(64,(Bo a1))] [(1,(.t (.st [(.v (.int .i64 a2)),(.sl false 1 (texts a3)),(.sl false 1 (zz a4)),(.st [(.v (.int .i64 a5)),(.v (.int .i64 a6)),(.v (.string a7)),(.sl false 5 (zh.ts a8)),(.sl false 5 (zh.ts a9))]),(.st [(.v (.int .i64 a10)),(.sl false 5 (zh.ts a11)),(.sl false 3 (GPred.ts a12))]),(.sl false 1 (zq a13)),(.sl false 4 (GBy.ts a14)),(.sl false 1 (texts a15))])))])=some (zao.to r):=by
 rw[zao]at h
 rcases fk h with ⟨h1,h⟩ | ⟨h1,h⟩
 ·rcases fk h with ⟨h2,h⟩ | ⟨h2,h⟩
  ·cases h
   exact path (zk h1 (zax h2 5 ob)) (by kernel_rfl)
  ·obtain⟨a16,h3,h⟩:=sm h
   cases h
   exact path (zk h1 (zV h2 (zaa (ht.zI _ _ h3) (zaG h2 ob)))) (by kernel_rfl)
 ·cases h
  exact path (zk h1 ob) (by kernel_rfl)
end Go.Proofs.YtgmidllbkjdnnaaDoor.W
