/- The functions of this program, over plain data. -/
import Derived.Test.YtgmidllbkjdnnaaDoorL4A
import Derived.Lib.Bytealg
namespace Go.Proofs.YtgmidllbkjdnnaaDoor.W
open Go.Proofs.YtgmidllbkjdnnaaDoor.Flat
set_option linter.unusedVariables false
set_option linter.unusedSimpArgs false
structure Tab where
  zbJ:(List GStep)→(List GStep)→GProg→Option Bool
  zcU:(List GStep)→Option Bool
  zbi:Option Bool
  zde:GProg→Option Int
  zbC:(List GStep)→Option (GProg × Int)
  zbf:GProg→GProg→Option Bool
  zdq:GProg→GProg→Option Bool
  zaA:(List GStep)→(List GStep)→Option Bool
  zbo:(List GStep)→Int→Int→Option Int
  zdu:GProg→Option ((List GStep) × Int)
  zdD:GProg→Option Int
  zcL:(List GStep)→Option Int
  zdx:(List GStep)→Option (List GStep)
  zaN:(List GStep)→zU→Option (Int × zU)
  zac:(List (List GCode))→(List (List GCode))→Option Bool
  zb9:(List ByteArray)→(List ByteArray)→Option Bool
  za2:(List Int)→(List Int)→Option Bool
  zb0:zh→zh→Option Bool
  zbI:GPred→GPred→Option Bool
  zaO:(List ByteArray)→(List ByteArray)→Option Bool
  zaQ:(List Int)→(List Int)→Option Bool
  zbD:zh→Int→Option Int
  zcJ:GPred→Int→Option Int
  zc8:GStep→Option (List (List GStep))
  zaM:Int→zD→Option ((List GStep) × Bool × zD)
  zc6:(List GStep)→Option Int
  za5:(List GStep)→Int→Option Bool
  za3:(List GStep)→Int→Option (List GStep)
  zca:(List GCode)→(List GCode)→Option Bool
  zaJ:zh→zh→Int→Option Int
  zbO:(List zh)→(List zh)→Option Bool
  zdr:(List zh)→Int→Option Int
  zco:(List GStep)→Int→Int→Option Int
  zO:(List GStep)→Int→Option Bool
  slices_Clone_string:(List ByteArray)→Option (List ByteArray)
  slices_Clone_int:(List Int)→Option (List Int)
  zcM:zh→Option zh
  zdH:GPred→Option GPred
  zdf:(List (List GStep))→Int→Option (List (List GStep))
  zaj:(List GCode)→(List GCode)→Option Bool
  zbg:Int→Int→Option Int
  zdj:ByteArray→ByteArray→Option Int
  zdg:(List zh)→(List zh)→Int→Option Int
  zdh:GStep→Option (List (List GStep))
  zaf:(List GStep)→Int→Option Int
  zcN:zh→Int→Option zh
  zc5:GPred→Int→Option GPred
  zc0:GCode→GCode→Option Bool
  zdV:(List (List GStep))→Option (List (List GStep))
  zbP:GStep→Int→Option Bool
  zcb:(List zh)→Int→Option (List zh)
  slices_Equal_string:(List ByteArray)→(List ByteArray)→Option Bool
  slices_Equal_int:(List Int)→(List Int)→Option Bool
  zbc:(List GKey)→(List GKey)→Option Bool
  zbh:zh→zh→Option Bool
  zaS:GPred→GPred→Option Bool
  zdI:GStep→Int→Option Bool
  zdy:zh→zh→Option Int
  zad:(List zh)→(List zh)→Option Bool
  zZ:(List GPred)→(List GPred)→Option Bool
  zdk:Int→Option ByteArray
  zcx:Option GT108
  zdv:Int→GT105→Option Bool
  zA:(List ByteArray)→Option Bool
  zbR:zh→Option Int
  zcO:GPred→Option Int
  zcp:(List ByteArray)→Option Bool
  zcB:GPred→Option Bool
  zbB:GStep→Option Bool
  zdJ:GBy→Bool→Int→Option Bool
  zbp:zh→zh→Int→Option Int
  zal:(List ByteArray)→Option Int
  zbq:zh→Int→Option Bool
  zcq:GPred→Int→Option Bool
  slices_Contains_string:(List ByteArray)→ByteArray→Option Bool
  zI:(List Int)→Option Bool
  zcP:ByteArray→Option Bool
  cmp_Compare_int:Int→Int→Option Int
  strings_Compare:ByteArray→ByteArray→Option Int
  zdi:(List Int)→Option Int
  zJ:(List zh)→(List zh)→Int→Option Int
  zcK:ByteArray→Option Bool
  zav:(List (List zh))→Option (List zh)
  zcr:Int→Option (Int × Int × Int × Int)
  zQ:(List GPred)→Int→Option Bool
  zW:(List zh)→Option Bool
  slices_Index_string:(List ByteArray)→ByteArray→Option Int
  zab:(List Int)→Option Int
  zc1:Int→Bool→Option Bool
  cmp_isNaN_int:Int→Option Bool
  bytealg_CompareString:ByteArray→ByteArray→Option Int
  zaY:zh→zh→Int→Option Int
  zdW:(List zh)→Int→Option (List zh)
  zah:(List GPred)→Int→Option Int
  zai:(List zh)→Option Int
  zbn:Int→Option Bool
  zcf:GPred→Int→Option Bool
  zcg:zh→Option Bool
def zcR (t:Tab) (n:Nat):(List GStep)→(List GStep)→GProg→GProg→Option Bool
 | a1,a2,⟨a3⟩,⟨a4⟩=>
 (match t.zbf (GProg.mk a3) (GProg.mk a4)with
 | some a5=>
 (match t.zaA a1 a2 with
 | some a6=>
 if (a5==a6)=true then
 t.zbi
 else
 some false
 | none=>none)
 | none=>none)
def zcS (t:Tab) (n:Nat):(List GStep)→(List GStep)→Int→Int→GProg→GProg→Option Bool
 | a1,a2,a3,a4,⟨a5⟩,⟨a6⟩=>
 if (a3 !=0)=true then
 t.zbi
 else
 if (a4 !=0)=true then
 t.zbi
 else
 zcR t n a1 a2 (GProg.mk a5) (GProg.mk a6)
def zcT (t:Tab) (n:Nat):(List GStep)→(List GStep)→GProg→Option Bool
 | a1,a2,⟨a3⟩=>
 (match t.zbC a1 with
 | some (⟨a4⟩,a5)=>
 (match t.zbC a2 with
 | some (⟨a6⟩,a7)=>
 (match t.zbf (GProg.mk a4) (GProg.mk a3)with
 | some a8=>
 (match t.zdq (GProg.mk a4) (GProg.mk a3)with
 | some a9=>
 if (a8==a9)=true then
 (match t.zbf (GProg.mk a3) (GProg.mk a4)with
 | some a10=>
 if (a10==a8)=true then
 (match t.zbf (GProg.mk a3) (GProg.mk a3)with
 | some a11=>
 if a11=true then
 zcS t n a1 a2 a5 a7 (GProg.mk a4) (GProg.mk a6)
 else
 some false
 | none=>none)
 else
 some false
 | none=>none)
 else
 some false
 | none=>none)
 | none=>none)
 | none=>none)
 | none=>none)
def zbJ (t:Tab) (n:Nat):(List GStep)→(List GStep)→GProg→Option Bool
 | a1,a2,⟨a3⟩=>
 (match t.zcU a1 with
 | some a4=>
 if a4=true then
 t.zbi
 else
 (match t.zcU a2 with
 | some a6=>
 if a6=true then
 t.zbi
 else
 (match t.zde (GProg.mk a3)with
 | some a8=>
 if (decide (a8≥600))=true then
 t.zbi
 else
 zcT t n a1 a2 (GProg.mk a3)
 | none=>none)
 | none=>none)
 | none=>none)
def zcU (t:Tab) (n:Nat):(List GStep)→Option Bool
 | a1=>
 (match t.zbo a1 1000 14 with
 | some a2=>
 some (decide (a2≥1000))
 | none=>none)
def zdP (t:Tab) (n:Nat):(List GStep)→(List GStep)→GProg→Option Bool
 | a1,a2,⟨a3⟩=>
 if (decide (0≤(0:Int)))=true then
 (match a3[(0:Int).toNat]? with
 | some a4=>
 if (decide (0≤(2:Int)))=true then
 (match a4[(2:Int).toNat]? with
 | some ⟨a5,a6,a7,⟨a8,a9,a10,a11,a12⟩,⟨a13,a14,a15⟩,a16,a17,a18⟩=>
 (match a16[(0:Int).toNat]? with
 | some a19=>
 if (a19==3)=true then
 if (decide (0≤(1:Int)))=true then
 (match a3[(1:Int).toNat]? with
 | some a20=>
 (match a20[(1:Int).toNat]? with
 | some ⟨a21,a22,a23,⟨a24,a25,a26,a27,a28⟩,⟨a29,a30,a31⟩,a32,a33,a34⟩=>
 if (a21==28)=true then
 if (decide (0≤(3:Int)))=true then
 (match a3[(3:Int).toNat]? with
 | some a35=>
 (match a35[(0:Int).toNat]? with
 | some ⟨a36,a37,a38,⟨a39,a40,a41,a42,a43⟩,⟨a44,a45,a46⟩,a47,a48,a49⟩=>
 if (a36==12)=true then
 (match t.zaA a1 a2 with
 | some a50=>
 if a50=true then
 (match t.zdD (GProg.mk ([]:List (List GCode)))with
 | some a51=>
 if (a51==2)=true then
 t.zbf (GProg.mk a3) (GProg.mk a3)
 else
 some false
 | none=>none)
 else
 some false
 | none=>none)
 else
 some false
 | none=>none)
 | none=>none)
 else none
 else
 some false
 | none=>none)
 | none=>none)
 else none
 else
 some false
 | none=>none)
 | none=>none)
 else none
 | none=>none)
 else none
def zbi (t:Tab) (n:Nat):Option Bool:=
 (match t.zbC ([(GStep.mk 1 ([]:List ByteArray) ([]:List Int) (zh.mk 0 0 ByteArray.empty ([]:List zh) ([]:List zh)) (GPred.mk 0 ([]:List zh) ([]:List GPred)) ([]:List (List GStep)) ([]:List GBy) ([]:List ByteArray)),(GStep.mk 28 ([]:List ByteArray) ([]:List Int) (zh.mk 0 0 ByteArray.empty ([]:List zh) ([]:List zh)) (GPred.mk 0 ([]:List zh) ([]:List GPred)) ([([(GStep.mk 3 ([]:List ByteArray) ([]:List Int) (zh.mk 0 0 ByteArray.empty ([]:List zh) ([]:List zh)) (GPred.mk 0 ([]:List zh) ([]:List GPred)) ([]:List (List GStep)) ([]:List GBy) ([]:List ByteArray)),(GStep.mk 28 ([]:List ByteArray) ([]:List Int) (zh.mk 0 0 ByteArray.empty ([]:List zh) ([]:List zh)) (GPred.mk 0 ([]:List zh) ([]:List GPred)) ([([(GStep.mk 4 ([]:List ByteArray) ([]:List Int) (zh.mk 0 0 ByteArray.empty ([]:List zh) ([]:List zh)) (GPred.mk 0 ([]:List zh) ([]:List GPred)) ([]:List (List GStep)) ([]:List GBy) ([]:List ByteArray))]:List GStep)]:List (List GStep)) ([]:List GBy) ([]:List ByteArray))]:List GStep)]:List (List GStep)) ([]:List GBy) ([]:List ByteArray)),(GStep.mk 44 ([]:List ByteArray) ([]:List Int) (zh.mk 0 0 ByteArray.empty ([]:List zh) ([]:List zh)) (GPred.mk 0 ([]:List zh) ([]:List GPred)) ([([(GStep.mk 12 ([]:List ByteArray) ([]:List Int) (zh.mk 0 0 ByteArray.empty ([]:List zh) ([]:List zh)) (GPred.mk 0 ([]:List zh) ([]:List GPred)) ([]:List (List GStep)) ([]:List GBy) ([]:List ByteArray))]:List GStep)]:List (List GStep)) ([]:List GBy) ([]:List ByteArray))]:List GStep)with
 | some (⟨a1⟩,a2)=>
 (match t.zdu (GProg.mk a1)with
 | some (a3,a4)=>
 if (a2 !=0)=true then
 some false
 else
 if (a4 !=0)=true then
 some false
 else
 if ((a1.length:Int) !=4)=true then
 some false
 else
 if (decide (0≤(0:Int)))=true then
 (match a1[(0:Int).toNat]? with
 | some a5=>
 if ((a5.length:Int) !=3)=true then
 some false
 else
 if (decide (0≤(2:Int)))=true then
 (match a5[(2:Int).toNat]? with
 | some ⟨a6,a7,a8,⟨a9,a10,a11,a12,a13⟩,⟨a14,a15,a16⟩,a17,a18,a19⟩=>
 if ((a17.length:Int) !=1)=true then
 some false
 else
 if (decide (0≤(1:Int)))=true then
 (match a1[(1:Int).toNat]? with
 | some a20=>
 if ((a20.length:Int) !=2)=true then
 some false
 else
 zdP t n ([(GStep.mk 1 ([]:List ByteArray) ([]:List Int) (zh.mk 0 0 ByteArray.empty ([]:List zh) ([]:List zh)) (GPred.mk 0 ([]:List zh) ([]:List GPred)) ([]:List (List GStep)) ([]:List GBy) ([]:List ByteArray)),(GStep.mk 28 ([]:List ByteArray) ([]:List Int) (zh.mk 0 0 ByteArray.empty ([]:List zh) ([]:List zh)) (GPred.mk 0 ([]:List zh) ([]:List GPred)) ([([(GStep.mk 3 ([]:List ByteArray) ([]:List Int) (zh.mk 0 0 ByteArray.empty ([]:List zh) ([]:List zh)) (GPred.mk 0 ([]:List zh) ([]:List GPred)) ([]:List (List GStep)) ([]:List GBy) ([]:List ByteArray)),(GStep.mk 28 ([]:List ByteArray) ([]:List Int) (zh.mk 0 0 ByteArray.empty ([]:List zh) ([]:List zh)) (GPred.mk 0 ([]:List zh) ([]:List GPred)) ([([(GStep.mk 4 ([]:List ByteArray) ([]:List Int) (zh.mk 0 0 ByteArray.empty ([]:List zh) ([]:List zh)) (GPred.mk 0 ([]:List zh) ([]:List GPred)) ([]:List (List GStep)) ([]:List GBy) ([]:List ByteArray))]:List GStep)]:List (List GStep)) ([]:List GBy) ([]:List ByteArray))]:List GStep)]:List (List GStep)) ([]:List GBy) ([]:List ByteArray)),(GStep.mk 44 ([]:List ByteArray) ([]:List Int) (zh.mk 0 0 ByteArray.empty ([]:List zh) ([]:List zh)) (GPred.mk 0 ([]:List zh) ([]:List GPred)) ([([(GStep.mk 12 ([]:List ByteArray) ([]:List Int) (zh.mk 0 0 ByteArray.empty ([]:List zh) ([]:List zh)) (GPred.mk 0 ([]:List zh) ([]:List GPred)) ([]:List (List GStep)) ([]:List GBy) ([]:List ByteArray))]:List GStep)]:List (List GStep)) ([]:List GBy) ([]:List ByteArray))]:List GStep) a3 (GProg.mk a1)
 | none=>none)
 else none
 | none=>none)
 else none
 | none=>none)
 else none
 | none=>none)
 | none=>none)
def zdb (t:Tab) (n:Nat):Int→Int→Int→GProg→Option (Int × Int × Int × GProg)
 | a1,a2,a3,⟨a4⟩=>
 if (decide (0≤(a2:Int)))=true then
 (match a4[(a2:Int).toNat]? with
 | some a5=>
 if (decide (0≤(a3:Int)))=true then
 (match a5[(a3:Int).toNat]? with
 | some ⟨a6,a7,a8,⟨a9,a10,a11,a12,a13⟩,⟨a14,a15,a16⟩,a17,a18,a19⟩=>
 (match t.zbo ([(GStep.mk 0 a7 a8 (zh.mk a9 a10 a11 a12 a13) (GPred.mk a14 a15 a16) ([]:List (List GStep)) ([]:List GBy) a19)]:List GStep) 600 14 with
 | some a20=>
 some ((IntKind.wrap .i64 ((IntKind.wrap .i64 ((IntKind.wrap .i64 (a1+a20))+(a17.length:Int)))+(a18.length:Int))),a2,(IntKind.wrap .i64 (a3+1)),(GProg.mk a4))
 | none=>none)
 | none=>none)
 else none
 | none=>none)
 else none
def zbU (t:Tab) (n:Nat):Nat→Int→Int→Int→GProg→Option (Int × Int × Int × Bool × GProg)
 | 0,_,_,_,_=>none
 | k+1,a1,a2,a3,⟨a4⟩=>
 if (decide (0≤(a2:Int)))=true then
 (match a4[(a2:Int).toNat]? with
 | some a5=>
 if (decide (a3 < (a5.length:Int)))=true then
 if (decide (a1 < 600))=true then
 (match zdb t n a1 a2 a3 (GProg.mk a4)with
 | some (a6,a7,a8,⟨a9⟩)=>
 zbU t n k a6 a7 a8 (GProg.mk a9)
 | none=>none)
 else
 some (a1,a2,a3,(decide (a1 < 600)),(GProg.mk a4))
 else
 some (a1,a2,a3,false,(GProg.mk a4))
 | none=>none)
 else none
def zdc (t:Tab) (n:Nat):Int→Int→GProg→Option (Int × Int × GProg)
 | a1,a2,⟨a3⟩=>
 (match zbU t n n a1 a2 0 (GProg.mk a3)with
 | some (a4,a5,a6,a7,⟨a8⟩)=>
 some (a4,(IntKind.wrap .i64 (a5+1)),(GProg.mk a8))
 | none=>none)
def zbV (t:Tab) (n:Nat):Nat→Int→Int→GProg→Option (Int × Int × Bool × GProg)
 | 0,_,_,_=>none
 | k+1,a1,a2,⟨a3⟩=>
 if (decide (a2 < (a3.length:Int)))=true then
 if (decide (a1 < 600))=true then
 (match zdc t n a1 a2 (GProg.mk a3)with
 | some (a4,a5,⟨a6⟩)=>
 zbV t n k a4 a5 (GProg.mk a6)
 | none=>none)
 else
 some (a1,a2,(decide (a1 < 600)),(GProg.mk a3))
 else
 some (a1,a2,false,(GProg.mk a3))
def zde (t:Tab) (n:Nat):GProg→Option Int
 | ⟨a1⟩=>
 (match zbV t n n (a1.length:Int) 0 (GProg.mk a1)with
 | some (a2,a3,a4,⟨a5⟩)=>
 some a2
 | none=>none)
def zbC (t:Tab) (n:Nat):(List GStep)→Option (GProg × Int)
 | a1=>
 (match t.zcL a1 with
 | some a2=>
 if (a2 !=0)=true then
 some ((GProg.mk ([]:List (List GCode))),a2)
 else
 (match t.zdx a1 with
 | some a3=>
 (match t.zaN a3 (zU.mk ([]:List (List GCode)))with
 | some (a4,⟨a5⟩)=>
 some ((GProg.mk a5),0)
 | none=>none)
 | none=>none)
 | none=>none)
def zbf (t:Tab) (n:Nat):GProg→GProg→Option Bool
 | ⟨a1⟩,⟨a2⟩=>
 t.zac a1 a2
def zbW (t:Tab) (n:Nat):Nat→Int→Int→Int→GProg→GProg→GCode→GCode→Option (Bool⊕(Int × Int × Int × Bool × GProg × GProg × GCode × GCode))
 | 0,_,_,_,_,_,_,_=>none
 | k+1,a1,a2,a3,⟨a4⟩,⟨a5⟩,⟨a6,a7,a8,⟨a9,a10,a11,a12,a13⟩,⟨a14,a15,a16⟩,a17,a18,a19⟩,⟨a20,a21,a22,⟨a23,a24,a25,a26,a27⟩,⟨a28,a29,a30⟩,a31,a32,a33⟩=>
 if (decide (a3 < (a18.length:Int)))=true then
 if (decide (0≤(a3:Int)))=true then
 (match a18[(a3:Int).toNat]? with
 | some ⟨a34,a35,a36,a37⟩=>
 (match a32[(a3:Int).toNat]? with
 | some ⟨a38,a39,a40,a41⟩=>
 if ((a34==a38)&&((a35.toList==a39.toList)&&((a36==a40)&&((a37==a41)&&true))))=true then
 zbW t n k a1 a2 (IntKind.wrap .i64 (a3+1)) (GProg.mk a4) (GProg.mk a5) (GCode.mk a6 a7 a8 (zh.mk a9 a10 a11 a12 a13) (GPred.mk a14 a15 a16) a17 a18 a19) (GCode.mk a20 a21 a22 (zh.mk a23 a24 a25 a26 a27) (GPred.mk a28 a29 a30) a31 a32 a33)
 else
 some (.inl false)
 | none=>none)
 | none=>none)
 else none
 else
 some (.inr (a1,a2,a3,(decide (a3 < (a18.length:Int))),(GProg.mk a4),(GProg.mk a5),(GCode.mk a6 a7 a8 (zh.mk a9 a10 a11 a12 a13) (GPred.mk a14 a15 a16) a17 a18 a19),(GCode.mk a20 a21 a22 (zh.mk a23 a24 a25 a26 a27) (GPred.mk a28 a29 a30) a31 a32 a33)))
def zcF (t:Tab) (n:Nat):Int→Int→GProg→GProg→GCode→GCode→Option (Bool⊕(Int × Int × GProg × GProg))
 | a1,a2,⟨a3⟩,⟨a4⟩,⟨a5,a6,a7,⟨a8,a9,a10,a11,a12⟩,⟨a13,a14,a15⟩,a16,a17,a18⟩,⟨a19,a20,a21,⟨a22,a23,a24,a25,a26⟩,⟨a27,a28,a29⟩,a30,a31,a32⟩=>
 (match zbW t n n a1 a2 0 (GProg.mk a3) (GProg.mk a4) (GCode.mk a5 a6 a7 (zh.mk a8 a9 a10 a11 a12) (GPred.mk a13 a14 a15) a16 a17 a18) (GCode.mk a19 a20 a21 (zh.mk a22 a23 a24 a25 a26) (GPred.mk a27 a28 a29) a30 a31 a32)with
 | some (.inl a33)=>
 some (.inl a33)
 | some (.inr (a34,a35,a36,a37,⟨a38⟩,⟨a39⟩,⟨a40,a41,a42,⟨a43,a44,a45,a46,a47⟩,⟨a48,a49,a50⟩,a51,a52,a53⟩,⟨a54,a55,a56,⟨a57,a58,a59,a60,a61⟩,⟨a62,a63,a64⟩,a65,a66,a67⟩))=>
 some (.inr (a34,a35,(GProg.mk a38),(GProg.mk a39)))
 | none=>none)
def zbX (t:Tab) (n:Nat):Nat→Int→Int→GProg→GProg→Option (Bool⊕(Int × Int × Bool × GProg × GProg))
 | 0,_,_,_,_=>none
 | k+1,a1,a2,⟨a3⟩,⟨a4⟩=>
 if (decide (0≤(a1:Int)))=true then
 (match a3[(a1:Int).toNat]? with
 | some a5=>
 if (decide (a2 < (a5.length:Int)))=true then
 if (decide (0≤(a2:Int)))=true then
 (match a5[(a2:Int).toNat]? with
 | some ⟨a6,a7,a8,⟨a9,a10,a11,a12,a13⟩,⟨a14,a15,a16⟩,a17,a18,a19⟩=>
 (match a4[(a1:Int).toNat]? with
 | some a20=>
 (match a20[(a2:Int).toNat]? with
 | some ⟨a21,a22,a23,⟨a24,a25,a26,a27,a28⟩,⟨a29,a30,a31⟩,a32,a33,a34⟩=>
 if (a6 !=a21)=true then
 some (.inl false)
 else
 (match t.zb9 a7 a22 with
 | some a35=>
 if a35=true then
 (match t.zb9 a19 a34 with
 | some a36=>
 if a36=true then
 (match t.za2 a8 a23 with
 | some a37=>
 if a37=true then
 (match t.za2 a17 a32 with
 | some a38=>
 if a38=true then
 (match t.zb0 (zh.mk a9 a10 a11 a12 a13) (zh.mk a24 a25 a26 a27 a28)with
 | some a39=>
 if a39=true then
 (match t.zbI (GPred.mk a14 a15 a16) (GPred.mk a29 a30 a31)with
 | some a40=>
 if a40=true then
 if ((a18.length:Int) !=(a33.length:Int))=true then
 some (.inl false)
 else
 (match zcF t n a1 a2 (GProg.mk a3) (GProg.mk a4) (GCode.mk a6 a7 a8 (zh.mk a9 a10 a11 a12 a13) (GPred.mk a14 a15 a16) a17 a18 a19) (GCode.mk a21 a22 a23 (zh.mk a24 a25 a26 a27 a28) (GPred.mk a29 a30 a31) a32 a33 a34)with
 | some (.inl a41)=>
 some (.inl a41)
 | some (.inr (a42,a43,⟨a44⟩,⟨a45⟩))=>
 zbX t n k a42 (IntKind.wrap .i64 (a43+1)) (GProg.mk a44) (GProg.mk a45)
 | none=>none)
 else
 some (.inl false)
 | none=>none)
 else
 some (.inl false)
 | none=>none)
 else
 some (.inl false)
 | none=>none)
 else
 some (.inl false)
 | none=>none)
 else
 some (.inl false)
 | none=>none)
 else
 some (.inl false)
 | none=>none)
 | none=>none)
 | none=>none)
 | none=>none)
 else none
 else
 some (.inr (a1,a2,(decide (a2 < (a5.length:Int))),(GProg.mk a3),(GProg.mk a4)))
 | none=>none)
 else none
def zbY (t:Tab) (n:Nat):Nat→Int→GProg→GProg→Option (Bool⊕(Int × Bool × GProg × GProg))
 | 0,_,_,_=>none
 | k+1,a1,⟨a2⟩,⟨a3⟩=>
 if (decide (a1 < (a2.length:Int)))=true then
 if (decide (0≤(a1:Int)))=true then
 (match a2[(a1:Int).toNat]? with
 | some a4=>
 (match a3[(a1:Int).toNat]? with
 | some a5=>
 if ((a4.length:Int) !=(a5.length:Int))=true then
 some (.inl false)
 else
 (match zbX t n n a1 0 (GProg.mk a2) (GProg.mk a3)with
 | some (.inl a6)=>
 some (.inl a6)
 | some (.inr (a7,a8,a9,⟨a10⟩,⟨a11⟩))=>
 zbY t n k (IntKind.wrap .i64 (a7+1)) (GProg.mk a10) (GProg.mk a11)
 | none=>none)
 | none=>none)
 | none=>none)
 else none
 else
 some (.inr (a1,(decide (a1 < (a2.length:Int))),(GProg.mk a2),(GProg.mk a3)))
def zdq (t:Tab) (n:Nat):GProg→GProg→Option Bool
 | ⟨a1⟩,⟨a2⟩=>
 if ((a1.length:Int) !=(a2.length:Int))=true then
 some false
 else
 (match zbY t n n 0 (GProg.mk a1) (GProg.mk a2)with
 | some (.inl a3)=>
 some a3
 | some (.inr (a4,a5,⟨a6⟩,⟨a7⟩))=>
 some true
 | none=>none)
def zbE (t:Tab) (n:Nat):Nat→(List GStep)→(List GStep)→Int→Int→Int→(List ByteArray)→(List Int)→Int→Int→ByteArray→(List zh)→(List zh)→Int→(List zh)→(List GPred)→(List (List GStep))→(List GBy)→(List ByteArray)→Int→(List ByteArray)→(List Int)→Int→Int→ByteArray→(List zh)→(List zh)→Int→(List zh)→(List GPred)→(List (List GStep))→(List GBy)→(List ByteArray)→Option (Bool⊕((List GStep) × (List GStep) × Int × Int × Bool × Int × (List ByteArray) × (List Int) × Int × Int × ByteArray × (List zh) × (List zh) × Int × (List zh) × (List GPred) × (List (List GStep)) × (List GBy) × (List ByteArray) × Int × (List ByteArray) × (List Int) × Int × Int × ByteArray × (List zh) × (List zh) × Int × (List zh) × (List GPred) × (List (List GStep)) × (List GBy) × (List ByteArray)))
 | 0,_,_,_,_,_,_,_,_,_,_,_,_,_,_,_,_,_,_,_,_,_,_,_,_,_,_,_,_,_,_,_,_=>none
 | k+1,a1,a2,a3,a4,a5,a6,a7,a8,a9,a10,a11,a12,a13,a14,a15,a16,a17,a18,a19,a20,a21,a22,a23,a24,a25,a26,a27,a28,a29,a30,a31,a32=>
 if (decide (a4 < (a16.length:Int)))=true then
 if (decide (0≤(a4:Int)))=true then
 (match a16[(a4:Int).toNat]? with
 | some a33=>
 (match a30[(a4:Int).toNat]? with
 | some a34=>
 (match t.zaA a33 a34 with
 | some a35=>
 if a35=true then
 zbE t n k a1 a2 a3 (IntKind.wrap .i64 (a4+1)) a5 a6 a7 a8 a9 a10 a11 a12 a13 a14 a15 a16 a17 a18 a19 a20 a21 a22 a23 a24 a25 a26 a27 a28 a29 a30 a31 a32
 else
 some (.inl false)
 | none=>none)
 | none=>none)
 | none=>none)
 else none
 else
 some (.inr (a1,a2,a3,a4,(decide (a4 < (a16.length:Int))),a5,a6,a7,a8,a9,a10,a11,a12,a13,a14,a15,a16,a17,a18,a19,a20,a21,a22,a23,a24,a25,a26,a27,a28,a29,a30,a31,a32))
def zbZ (t:Tab) (n:Nat):Nat→(List GStep)→(List GStep)→Int→Int→Int→(List ByteArray)→(List Int)→Int→Int→ByteArray→(List zh)→(List zh)→Int→(List zh)→(List GPred)→(List (List GStep))→(List GBy)→(List ByteArray)→Int→(List ByteArray)→(List Int)→Int→Int→ByteArray→(List zh)→(List zh)→Int→(List zh)→(List GPred)→(List (List GStep))→(List GBy)→(List ByteArray)→Option (Bool⊕((List GStep) × (List GStep) × Int × Int × Bool × Int × (List ByteArray) × (List Int) × Int × Int × ByteArray × (List zh) × (List zh) × Int × (List zh) × (List GPred) × (List (List GStep)) × (List GBy) × (List ByteArray) × Int × (List ByteArray) × (List Int) × Int × Int × ByteArray × (List zh) × (List zh) × Int × (List zh) × (List GPred) × (List (List GStep)) × (List GBy) × (List ByteArray)))
 | 0,_,_,_,_,_,_,_,_,_,_,_,_,_,_,_,_,_,_,_,_,_,_,_,_,_,_,_,_,_,_,_,_=>none
 | k+1,a1,a2,a3,a4,a5,a6,a7,a8,a9,a10,a11,a12,a13,a14,a15,a16,a17,a18,a19,a20,a21,a22,a23,a24,a25,a26,a27,a28,a29,a30,a31,a32=>
 if (decide (a4 < (a17.length:Int)))=true then
 if (decide (0≤(a4:Int)))=true then
 (match a17[(a4:Int).toNat]? with
 | some ⟨a33,a34,a35,a36⟩=>
 (match a31[(a4:Int).toNat]? with
 | some ⟨a37,a38,a39,a40⟩=>
 if (a33 !=a37)=true then
 some (.inl false)
 else
 if (a34.toList==a38.toList)=true then
 if (a36==a40)=true then
 (match t.zaA a35 a39 with
 | some a41=>
 if a41=true then
 zbZ t n k a1 a2 a3 (IntKind.wrap .i64 (a4+1)) a5 a6 a7 a8 a9 a10 a11 a12 a13 a14 a15 a16 a17 a18 a19 a20 a21 a22 a23 a24 a25 a26 a27 a28 a29 a30 a31 a32
 else
 some (.inl false)
 | none=>none)
 else
 some (.inl false)
 else
 some (.inl false)
 | none=>none)
 | none=>none)
 else none
 else
 some (.inr (a1,a2,a3,a4,(decide (a4 < (a17.length:Int))),a5,a6,a7,a8,a9,a10,a11,a12,a13,a14,a15,a16,a17,a18,a19,a20,a21,a22,a23,a24,a25,a26,a27,a28,a29,a30,a31,a32))
def zdz (t:Tab) (n:Nat) (a1 a2:List GStep) (a3 a4:Int) (a5:List ByteArray) (a6:List Int) (a7 a8:Int) (a9:ByteArray) (a10 a11:List zh) (a12:Int) (a13:List zh) (a14:List GPred) (a15:List (List GStep)) (a16:List GBy) (a17:List ByteArray) (a18:Int) (a19:List ByteArray) (a20:List Int) (a21 a22:Int) (a23:ByteArray) (a24 a25:List zh) (a26:Int) (a27:List zh) (a28:List GPred) (a29:List (List GStep)) (a30:List GBy) (a31:List ByteArray):Option (Bool⊕((List GStep) × (List GStep) × Int)):=
 (match zbZ t n n a1 a2 a3 0 a4 a5 a6 a7 a8 a9 a10 a11 a12 a13 a14 a15 a16 a17 a18 a19 a20 a21 a22 a23 a24 a25 a26 a27 a28 a29 a30 a31 with
 | some (.inl a32)=>
 some (.inl a32)
 | some (.inr (a33,a34,a35,a36,a37,a38,a39,a40,a41,a42,a43,a44,a45,a46,a47,a48,a49,a50,a51,a52,a53,a54,a55,a56,a57,a58,a59,a60,a61,a62,a63,a64,a65))=>
 some (.inr (a33,a34,a35))
 | none=>none)
def zcG (t:Tab) (n:Nat) (a1 a2:List GStep) (a3 a4:Int) (a5:List ByteArray) (a6:List Int) (a7 a8:Int) (a9:ByteArray) (a10 a11:List zh) (a12:Int) (a13:List zh) (a14:List GPred) (a15:List (List GStep)) (a16:List GBy) (a17:List ByteArray) (a18:Int) (a19:List ByteArray) (a20:List Int) (a21 a22:Int) (a23:ByteArray) (a24 a25:List zh) (a26:Int) (a27:List zh) (a28:List GPred) (a29:List (List GStep)) (a30:List GBy) (a31:List ByteArray):Option (Bool⊕((List GStep) × (List GStep) × Int)):=
 (match zbE t n n a1 a2 a3 0 a4 a5 a6 a7 a8 a9 a10 a11 a12 a13 a14 a15 a16 a17 a18 a19 a20 a21 a22 a23 a24 a25 a26 a27 a28 a29 a30 a31 with
 | some (.inl a32)=>
 some (.inl a32)
 | some (.inr (a33,a34,a35,a36,a37,a38,a39,a40,a41,a42,a43,a44,a45,a46,a47,a48,a49,a50,a51,a52,a53,a54,a55,a56,a57,a58,a59,a60,a61,a62,a63,a64,a65))=>
 zdz t n a33 a34 a35 a38 a39 a40 a41 a42 a43 a44 a45 a46 a47 a48 a49 a50 a51 a52 a53 a54 a55 a56 a57 a58 a59 a60 a61 a62 a63 a64 a65
 | none=>none)
def zbF (t:Tab) (n:Nat):Nat→(List GStep)→(List GStep)→Int→Option (Bool⊕((List GStep) × (List GStep) × Int × Bool))
 | 0,_,_,_=>none
 | k+1,a1,a2,a3=>
 if (decide (a3 < (a1.length:Int)))=true then
 if (decide (0≤(a3:Int)))=true then
 (match a1[(a3:Int).toNat]? with
 | some ⟨a4,a5,a6,⟨a7,a8,a9,a10,a11⟩,⟨a12,a13,a14⟩,a15,a16,a17⟩=>
 (match a2[(a3:Int).toNat]? with
 | some ⟨a18,a19,a20,⟨a21,a22,a23,a24,a25⟩,⟨a26,a27,a28⟩,a29,a30,a31⟩=>
 if (a4 !=a18)=true then
 some (.inl false)
 else
 (match t.zaO a5 a19 with
 | some a32=>
 if a32=true then
 (match t.zaQ a6 a20 with
 | some a33=>
 if a33=true then
 (match t.zaO a17 a31 with
 | some a34=>
 if a34=true then
 (match t.zb0 (zh.mk a7 a8 a9 a10 a11) (zh.mk a21 a22 a23 a24 a25)with
 | some a35=>
 if a35=true then
 (match t.zbI (GPred.mk a12 a13 a14) (GPred.mk a26 a27 a28)with
 | some a36=>
 if a36=true then
 if ((a15.length:Int) !=(a29.length:Int))=true then
 some (.inl false)
 else
 if ((a16.length:Int) !=(a30.length:Int))=true then
 some (.inl false)
 else
 (match zcG t n a1 a2 a3 a4 a5 a6 a7 a8 a9 a10 a11 a12 a13 a14 a15 a16 a17 a18 a19 a20 a21 a22 a23 a24 a25 a26 a27 a28 a29 a30 a31 with
 | some (.inl a37)=>
 some (.inl a37)
 | some (.inr (a38,a39,a40))=>
 zbF t n k a38 a39 (IntKind.wrap .i64 (a40+1))
 | none=>none)
 else
 some (.inl false)
 | none=>none)
 else
 some (.inl false)
 | none=>none)
 else
 some (.inl false)
 | none=>none)
 else
 some (.inl false)
 | none=>none)
 else
 some (.inl false)
 | none=>none)
 | none=>none)
 | none=>none)
 else none
 else
 some (.inr (a1,a2,a3,(decide (a3 < (a1.length:Int)))))
def zaA (t:Tab) (n:Nat):(List GStep)→(List GStep)→Option Bool
 | a1,a2=>
 if ((a1.length:Int) !=(a2.length:Int))=true then
 some false
 else
 (match zbF t n n a1 a2 0 with
 | some (.inl a3)=>
 some a3
 | some (.inr (a4,a5,a6,a7))=>
 some true
 | none=>none)
def zcH (t:Tab) (n:Nat) (a1:List GStep) (a2 a3 a4 a5:Int) (a6:List (List GStep)) (a7:Int):Option (Int⊕((List GStep) × Int × Int × Int × Int × (List (List GStep)) × Int)):=
 if (decide (a3≤0))=true then
 some (.inl a2)
 else
 if (decide (0≤(a7:Int)))=true then
 (match a6[(a7:Int).toNat]? with
 | some a8=>
 (match t.zbo a8 (IntKind.wrap .i64 (a2-a4)) (IntKind.wrap .i64 (a3-1))with
 | some a9=>
 some (.inr (a1,a2,a3,(IntKind.wrap .i64 (a4+a9)),a5,a6,(IntKind.wrap .i64 (a7+1))))
 | none=>none)
 | none=>none)
 else none
def za8 (t:Tab) (n:Nat):Nat→(List GStep)→Int→Int→Int→Int→(List (List GStep))→Int→Option (Int⊕((List GStep) × Int × Int × Int × Int × (List (List GStep)) × Int × Bool))
 | 0,_,_,_,_,_,_,_=>none
 | k+1,a1,a2,a3,a4,a5,a6,a7=>
 if (decide (a7 < (a6.length:Int)))=true then
 if (decide (a4 < a2))=true then
 (match zcH t n a1 a2 a3 a4 a5 a6 a7 with
 | some (.inl a8)=>
 some (.inl a8)
 | some (.inr (a9,a10,a11,a12,a13,a14,a15))=>
 za8 t n k a9 a10 a11 a12 a13 a14 a15
 | none=>none)
 else
 some (.inr (a1,a2,a3,a4,a5,a6,a7,(decide (a4 < a2))))
 else
 some (.inr (a1,a2,a3,a4,a5,a6,a7,false))
def zcs (t:Tab) (n:Nat) (a1:List GStep) (a2 a3 a4 a5:Int):Option (Int⊕((List GStep) × Int × Int × Int × Int)):=
 if (decide (0≤(a5:Int)))=true then
 (match a1[(a5:Int).toNat]? with
 | some ⟨a6,a7,a8,⟨a9,a10,a11,a12,a13⟩,⟨a14,a15,a16⟩,a17,a18,a19⟩=>
 (match t.zbD (zh.mk a9 a10 a11 a12 a13) a2 with
 | some a20=>
 (match t.zcJ (GPred.mk a14 a15 a16) a2 with
 | some a21=>
 (match t.zc8 (GStep.mk a6 a7 a8 (zh.mk a9 a10 a11 a12 a13) (GPred.mk a14 a15 a16) a17 a18 a19)with
 | some a22=>
 (match za8 t n n a1 a2 a3 (IntKind.wrap .i64 ((IntKind.wrap .i64 ((IntKind.wrap .i64 ((IntKind.wrap .i64 ((IntKind.wrap .i64 ((IntKind.wrap .i64 (a4+1))+(a7.length:Int)))+(a8.length:Int)))+(a19.length:Int)))+a20))+a21)) a5 a22 0 with
 | some (.inl a23)=>
 some (.inl a23)
 | some (.inr (a24,a25,a26,a27,a28,a29,a30,a31))=>
 some (.inr (a24,a25,a26,a27,(IntKind.wrap .i64 (a28+1))))
 | none=>none)
 | none=>none)
 | none=>none)
 | none=>none)
 | none=>none)
 else none
def za9 (t:Tab) (n:Nat):Nat→(List GStep)→Int→Int→Int→Int→Option (Int⊕((List GStep) × Int × Int × Int × Int × Bool))
 | 0,_,_,_,_,_=>none
 | k+1,a1,a2,a3,a4,a5=>
 if (decide (a5 < (a1.length:Int)))=true then
 if (decide (a4 < a2))=true then
 (match zcs t n a1 a2 a3 a4 a5 with
 | some (.inl a6)=>
 some (.inl a6)
 | some (.inr (a7,a8,a9,a10,a11))=>
 za9 t n k a7 a8 a9 a10 a11
 | none=>none)
 else
 some (.inr (a1,a2,a3,a4,a5,(decide (a4 < a2))))
 else
 some (.inr (a1,a2,a3,a4,a5,false))
def zbo (t:Tab) (n:Nat):(List GStep)→Int→Int→Option Int
 | a1,a2,a3=>
 (match za9 t n n a1 a2 a3 0 0 with
 | some (.inl a4)=>
 some a4
 | some (.inr (a5,a6,a7,a8,a9,a10))=>
 some a8
 | none=>none)
def zdu (t:Tab) (n:Nat):GProg→Option ((List GStep) × Int)
 | ⟨a1⟩=>
 (match t.zaM 0 (zD.mk a1 0)with
 | some (a2,a3,⟨a4,a5⟩)=>
 if a3=true then
 if (decide (a5 < (a1.length:Int)))=true then
 some (([]:List GStep),2)
 else
 (match t.zcL a2 with
 | some a6=>
 if (a6 !=0)=true then
 some (([]:List GStep),2)
 else
 (match t.zdx a2 with
 | some a7=>
 some (a7,0)
 | none=>none)
 | none=>none)
 else
 some (([]:List GStep),2)
 | none=>none)
def zdD (t:Tab) (n:Nat):GProg→Option Int
 | ⟨a1⟩=>
 (match t.zdu (GProg.mk a1)with
 | some (a2,a3)=>
 some a3
 | none=>none)
def zcL (t:Tab) (n:Nat):(List GStep)→Option Int
 | a1=>
 (match t.zc6 a1 with
 | some a2=>
 if (decide (a2 > 400))=true then
 some 2
 else
 (match t.za5 a1 1 with
 | some a3=>
 if a3=true then
 some 0
 else
 some 2
 | none=>none)
 | none=>none)
def zdx (t:Tab) (n:Nat):(List GStep)→Option (List GStep)
 | a1=>
 t.za3 a1 1
def za4 (t:Tab) (n:Nat):Nat→Int→(List GStep)→Int→Int→(List (List GStep))→Int→Int→GStep→Int→(List ByteArray)→(List Int)→zh→GPred→(List Int)→(List GKey)→(List ByteArray)→zU→Option (Int × (List GStep) × Int × Int × (List (List GStep)) × Int × Int × Bool × GStep × Int × (List ByteArray) × (List Int) × zh × GPred × (List Int) × (List GKey) × (List ByteArray) × zU)
 | 0,_,_,_,_,_,_,_,_,_,_,_,_,_,_,_,_,_=>none
 | k+1,a1,a2,a3,a4,a5,a6,a7,⟨a8,a9,a10,⟨a11,a12,a13,a14,a15⟩,⟨a16,a17,a18⟩,a19,a20,a21⟩,a22,a23,a24,⟨a25,a26,a27,a28,a29⟩,⟨a30,a31,a32⟩,a33,a34,a35,⟨a36⟩=>
 if (decide (a7 < a6))=true then
 if (decide (0≤(a7:Int)))=true then
 (match a5[(a7:Int).toNat]? with
 | some a37=>
 (match t.zaN a37 (zU.mk a36)with
 | some (a38,⟨a39⟩)=>
 if (a33.length+([a38]:List Int).length) * 8≤140737488355328 then
 za4 t n k a1 a2 a3 a4 a5 a6 (IntKind.wrap .i64 (a7+1)) (GStep.mk a8 a9 a10 (zh.mk a11 a12 a13 a14 a15) (GPred.mk a16 a17 a18) a19 a20 a21) a22 a23 a24 (zh.mk a25 a26 a27 a28 a29) (GPred.mk a30 a31 a32) (a33++([a38]:List Int)) a34 a35 (zU.mk a39)
 else none
 | none=>none)
 | none=>none)
 else none
 else
 some (a1,a2,a3,a4,a5,a6,a7,(decide (a7 < a6)),(GStep.mk a8 a9 a10 (zh.mk a11 a12 a13 a14 a15) (GPred.mk a16 a17 a18) a19 a20 a21),a22,a23,a24,(zh.mk a25 a26 a27 a28 a29),(GPred.mk a30 a31 a32),a33,a34,a35,(zU.mk a36))
def zbu (t:Tab) (n:Nat):Int→(List GStep)→Int→Int→(List GBy)→Int→Int→Int→(List ByteArray)→(List Int)→zh→GPred→(List Int)→(List GKey)→(List ByteArray)→GKey→zU→Option (Int × (List GStep) × Int × Int × (List GBy) × Int × Int × Int × (List ByteArray) × (List Int) × zh × GPred × (List Int) × (List GKey) × (List ByteArray) × zU)
 | a1,a2,a3,a4,a5,a6,a7,a8,a9,a10,⟨a11,a12,a13,a14,a15⟩,⟨a16,a17,a18⟩,a19,a20,a21,⟨a22,a23,a24,a25⟩,⟨a26⟩=>
 if (a20.length+([(GKey.mk a22 a23 a24 a25)]:List GKey).length) * 40≤140737488355328 then
 some (a1,a2,a3,a4,a5,a6,a7,a8,a9,a10,(zh.mk a11 a12 a13 a14 a15),(GPred.mk a16 a17 a18),a19,(a20++([(GKey.mk a22 a23 a24 a25)]:List GKey)),a21,(zU.mk a26))
 else none
def zaB (t:Tab) (n:Nat):Nat→Int→(List GStep)→Int→Int→(List GBy)→Int→Int→Int→(List ByteArray)→(List Int)→zh→GPred→(List Int)→(List GKey)→(List ByteArray)→zU→Option (Int × (List GStep) × Int × Int × (List GBy) × Int × Int × Bool × Int × (List ByteArray) × (List Int) × zh × GPred × (List Int) × (List GKey) × (List ByteArray) × zU)
 | 0,_,_,_,_,_,_,_,_,_,_,_,_,_,_,_,_=>none
 | k+1,a1,a2,a3,a4,a5,a6,a7,a8,a9,a10,⟨a11,a12,a13,a14,a15⟩,⟨a16,a17,a18⟩,a19,a20,a21,⟨a22⟩=>
 if (decide (a7 < a6))=true then
 if (decide (0≤(a7:Int)))=true then
 (match a5[(a7:Int).toNat]? with
 | some ⟨a23,a24,a25,a26⟩=>
 if (a23==3)=true then
 (match t.zaN a25 (zU.mk a22)with
 | some (a27,⟨a28⟩)=>
 (match zbu t n a1 a2 a3 a4 a5 a6 a7 a8 a9 a10 (zh.mk a11 a12 a13 a14 a15) (GPred.mk a16 a17 a18) a19 a20 a21 (GKey.mk a23 a24 a27 a26) (zU.mk a28)with
 | some (a29,a30,a31,a32,a33,a34,a35,a36,a37,a38,⟨a39,a40,a41,a42,a43⟩,⟨a44,a45,a46⟩,a47,a48,a49,⟨a50⟩)=>
 zaB t n k a29 a30 a31 a32 a33 a34 (IntKind.wrap .i64 (a35+1)) a36 a37 a38 (zh.mk a39 a40 a41 a42 a43) (GPred.mk a44 a45 a46) a47 a48 a49 (zU.mk a50)
 | none=>none)
 | none=>none)
 else
 (match zbu t n a1 a2 a3 a4 a5 a6 a7 a8 a9 a10 (zh.mk a11 a12 a13 a14 a15) (GPred.mk a16 a17 a18) a19 a20 a21 (GKey.mk a23 a24 0 a26) (zU.mk a22)with
 | some (a51,a52,a53,a54,a55,a56,a57,a58,a59,a60,⟨a61,a62,a63,a64,a65⟩,⟨a66,a67,a68⟩,a69,a70,a71,⟨a72⟩)=>
 zaB t n k a51 a52 a53 a54 a55 a56 (IntKind.wrap .i64 (a57+1)) a58 a59 a60 (zh.mk a61 a62 a63 a64 a65) (GPred.mk a66 a67 a68) a69 a70 a71 (zU.mk a72)
 | none=>none)
 | none=>none)
 else none
 else
 some (a1,a2,a3,a4,a5,a6,a7,(decide (a7 < a6)),a8,a9,a10,(zh.mk a11 a12 a13 a14 a15),(GPred.mk a16 a17 a18),a19,a20,a21,(zU.mk a22))
def zcy (t:Tab) (n:Nat):Int→(List GStep)→Int→Int→GCode→zU→Option (Int × (List GStep) × Int × Int × zU)
 | a1,a2,a3,a4,⟨a5,a6,a7,⟨a8,a9,a10,a11,a12⟩,⟨a13,a14,a15⟩,a16,a17,a18⟩,⟨a19⟩=>
 if (decide (0≤(a1:Int)))=true then
 (match a19[(a1:Int).toNat]? with
 | some a20=>
 if (a20.length+([(GCode.mk a5 a6 a7 (zh.mk a8 a9 a10 a11 a12) (GPred.mk a13 a14 a15) a16 a17 a18)]:List GCode).length) * 264≤140737488355328 then
 some (a1,a2,a3,a4,(zU.mk (a19.set (a1:Int).toNat (a20++([(GCode.mk a5 a6 a7 (zh.mk a8 a9 a10 a11 a12) (GPred.mk a13 a14 a15) a16 a17 a18)]:List GCode)))))
 else none
 | none=>none)
 else none
def zcV (t:Tab) (n:Nat):Int→(List GStep)→Int→Int→GStep→Int→(List ByteArray)→(List Int)→zh→GPred→(List Int)→(List GKey)→(List ByteArray)→zU→Option (Int × (List GStep) × Int × Int × zU)
 | a1,a2,a3,a4,⟨a5,a6,a7,⟨a8,a9,a10,a11,a12⟩,⟨a13,a14,a15⟩,a16,a17,a18⟩,a19,a20,a21,⟨a22,a23,a24,a25,a26⟩,⟨a27,a28,a29⟩,a30,a31,a32,⟨a33⟩=>
 (match zaB t n n a1 a2 a3 a4 a17 (a17.length:Int) 0 a19 a20 a21 (zh.mk a22 a23 a24 a25 a26) (GPred.mk a27 a28 a29) a30 a31 a32 (zU.mk a33)with
 | some (a34,a35,a36,a37,a38,a39,a40,a41,a42,a43,a44,⟨a45,a46,a47,a48,a49⟩,⟨a50,a51,a52⟩,a53,a54,a55,⟨a56⟩)=>
 zcy t n a34 a35 a36 a37 (GCode.mk a42 a43 a44 (zh.mk a45 a46 a47 a48 a49) (GPred.mk a50 a51 a52) a53 a54 a55) (zU.mk a56)
 | none=>none)
def zaH (t:Tab) (n:Nat):Nat→Int→(List GStep)→Int→Int→zU→Option (Int × (List GStep) × Int × Int × Bool × zU)
 | 0,_,_,_,_,_=>none
 | k+1,a1,a2,a3,a4,⟨a5⟩=>
 if (decide (a4 < a3))=true then
 if (decide (0≤(a4:Int)))=true then
 (match a2[(a4:Int).toNat]? with
 | some ⟨a6,a7,a8,⟨a9,a10,a11,a12,a13⟩,⟨a14,a15,a16⟩,a17,a18,a19⟩=>
 (match za4 t n n a1 a2 a3 a4 a17 (a17.length:Int) 0 (GStep.mk a6 a7 a8 (zh.mk a9 a10 a11 a12 a13) (GPred.mk a14 a15 a16) a17 a18 a19) a6 a7 a8 (zh.mk a9 a10 a11 a12 a13) (GPred.mk a14 a15 a16) ([]:List Int) ([]:List GKey) a19 (zU.mk a5)with
 | some (a20,a21,a22,a23,a24,a25,a26,a27,⟨a28,a29,a30,⟨a31,a32,a33,a34,a35⟩,⟨a36,a37,a38⟩,a39,a40,a41⟩,a42,a43,a44,⟨a45,a46,a47,a48,a49⟩,⟨a50,a51,a52⟩,a53,a54,a55,⟨a56⟩)=>
 (match zcV t n a20 a21 a22 a23 (GStep.mk a28 a29 a30 (zh.mk a31 a32 a33 a34 a35) (GPred.mk a36 a37 a38) a39 a40 a41) a42 a43 a44 (zh.mk a45 a46 a47 a48 a49) (GPred.mk a50 a51 a52) a53 a54 a55 (zU.mk a56)with
 | some (a57,a58,a59,a60,⟨a61⟩)=>
 zaH t n k a57 a58 a59 (IntKind.wrap .i64 (a60+1)) (zU.mk a61)
 | none=>none)
 | none=>none)
 | none=>none)
 else none
 else
 some (a1,a2,a3,a4,(decide (a4 < a3)),(zU.mk a5))
def zaN (t:Tab) (n:Nat):(List GStep)→zU→Option (Int × zU)
 | a1,⟨a2⟩=>
 if (a2.length+([([]:List GCode)]:List (List GCode)).length) * 24≤140737488355328 then
 (match zaH t n n (a2.length:Int) a1 (a1.length:Int) 0 (zU.mk (a2++([([]:List GCode)]:List (List GCode))))with
 | some (a3,a4,a5,a6,a7,⟨a8⟩)=>
 some (a3,(zU.mk a8))
 | none=>none)
 else none
def zN (t:Tab) (n:Nat):Nat→(List (List GCode))→(List (List GCode))→Int→Int→Option (Bool⊕((List (List GCode)) × (List (List GCode)) × Int × Int × Bool))
 | 0,_,_,_,_=>none
 | k+1,a1,a2,a3,a4=>
 if (decide (a4 < a3))=true then
 if (decide (0≤(a4:Int)))=true then
 (match a2[(a4:Int).toNat]? with
 | some a5=>
 (match a1[(a4:Int).toNat]? with
 | some a6=>
 (match t.zca a5 a6 with
 | some a7=>
 if a7=true then
 zN t n k a1 a2 a3 (IntKind.wrap .i64 (a4+1))
 else
 some (.inl false)
 | none=>none)
 | none=>none)
 | none=>none)
 else none
 else
 some (.inr (a1,a2,a3,a4,(decide (a4 < a3))))
def zac (t:Tab) (n:Nat):(List (List GCode))→(List (List GCode))→Option Bool
 | a1,a2=>
 if ((a1.length:Int) !=(a2.length:Int))=true then
 some false
 else
 (match zN t n n a2 a1 (a1.length:Int) 0 with
 | some (.inl a3)=>
 some a3
 | some (.inr (a4,a5,a6,a7,a8))=>
 some true
 | none=>none)
def zbv (t:Tab) (n:Nat):Nat→(List ByteArray)→(List ByteArray)→Int→Option (Bool⊕((List ByteArray) × (List ByteArray) × Int × Bool))
 | 0,_,_,_=>none
 | k+1,a1,a2,a3=>
 if (decide (a3 < (a1.length:Int)))=true then
 if (decide (0≤(a3:Int)))=true then
 (match a1[(a3:Int).toNat]? with
 | some a4=>
 (match a2[(a3:Int).toNat]? with
 | some a5=>
 if (a4.toList==a5.toList)=true then
 zbv t n k a1 a2 (IntKind.wrap .i64 (a3+1))
 else
 some (.inl false)
 | none=>none)
 | none=>none)
 else none
 else
 some (.inr (a1,a2,a3,(decide (a3 < (a1.length:Int)))))
def zb9 (t:Tab) (n:Nat):(List ByteArray)→(List ByteArray)→Option Bool
 | a1,a2=>
 if ((a1.length:Int) !=(a2.length:Int))=true then
 some false
 else
 (match zbv t n n a1 a2 0 with
 | some (.inl a3)=>
 some a3
 | some (.inr (a4,a5,a6,a7))=>
 some true
 | none=>none)
def zaP (t:Tab) (n:Nat):Nat→(List Int)→(List Int)→Int→Option (Bool⊕((List Int) × (List Int) × Int × Bool))
 | 0,_,_,_=>none
 | k+1,a1,a2,a3=>
 if (decide (a3 < (a1.length:Int)))=true then
 if (decide (0≤(a3:Int)))=true then
 (match a1[(a3:Int).toNat]? with
 | some a4=>
 (match a2[(a3:Int).toNat]? with
 | some a5=>
 if (a4 !=a5)=true then
 some (.inl false)
 else
 zaP t n k a1 a2 (IntKind.wrap .i64 (a3+1))
 | none=>none)
 | none=>none)
 else none
 else
 some (.inr (a1,a2,a3,(decide (a3 < (a1.length:Int)))))
def za2 (t:Tab) (n:Nat):(List Int)→(List Int)→Option Bool
 | a1,a2=>
 if ((a1.length:Int) !=(a2.length:Int))=true then
 some false
 else
 (match zaP t n n a1 a2 0 with
 | some (.inl a3)=>
 some a3
 | some (.inr (a4,a5,a6,a7))=>
 some true
 | none=>none)
def zb0 (t:Tab) (n:Nat):zh→zh→Option Bool
 | ⟨a1,a2,a3,a4,a5⟩,⟨a6,a7,a8,a9,a10⟩=>
 (match t.zaJ (zh.mk a1 a2 a3 a4 a5) (zh.mk a6 a7 a8 a9 a10) 1 with
 | some a11=>
 some (a11==0)
 | none=>none)
def zb1 (t:Tab) (n:Nat):Nat→Int→Int→(List zh)→(List GPred)→Int→(List zh)→(List GPred)→Option (Bool⊕(Int × Bool × Int × (List zh) × (List GPred) × Int × (List zh) × (List GPred)))
 | 0,_,_,_,_,_,_,_=>none
 | k+1,a1,a2,a3,a4,a5,a6,a7=>
 if (decide (a1 < (a4.length:Int)))=true then
 if (decide (0≤(a1:Int)))=true then
 (match a4[(a1:Int).toNat]? with
 | some ⟨a8,a9,a10⟩=>
 (match a7[(a1:Int).toNat]? with
 | some ⟨a11,a12,a13⟩=>
 (match t.zbI (GPred.mk a8 a9 a10) (GPred.mk a11 a12 a13)with
 | some a14=>
 if a14=true then
 zb1 t n k (IntKind.wrap .i64 (a1+1)) a2 a3 a4 a5 a6 a7
 else
 some (.inl false)
 | none=>none)
 | none=>none)
 | none=>none)
 else none
 else
 some (.inr (a1,(decide (a1 < (a4.length:Int))),a2,a3,a4,a5,a6,a7))
def zdK (t:Tab) (n:Nat) (a1:Int) (a2:List zh) (a3:List GPred) (a4:Int) (a5:List zh) (a6:List GPred):Option Bool:=
 (match zb1 t n n 0 a1 a2 a3 a4 a5 a6 with
 | some (.inl a7)=>
 some a7
 | some (.inr (a8,a9,a10,a11,a12,a13,a14,a15))=>
 some true
 | none=>none)
def zbI (t:Tab) (n:Nat):GPred→GPred→Option Bool
 | ⟨a1,a2,a3⟩,⟨a4,a5,a6⟩=>
 if (a1 !=a4)=true then
 some false
 else
 (match t.zbO a2 a5 with
 | some a7=>
 if a7=true then
 if ((a3.length:Int) !=(a6.length:Int))=true then
 some false
 else
 zdK t n a1 a2 a3 a4 a5 a6
 else
 some false
 | none=>none)
def zaI (t:Tab) (n:Nat):Nat→(List ByteArray)→(List ByteArray)→Int→Option (Bool⊕((List ByteArray) × (List ByteArray) × Int × Bool))
 | 0,_,_,_=>none
 | k+1,a1,a2,a3=>
 if (decide (a3 < (a1.length:Int)))=true then
 if (decide (0≤(a3:Int)))=true then
 (match a1[(a3:Int).toNat]? with
 | some a4=>
 (match a2[(a3:Int).toNat]? with
 | some a5=>
 if (a4.toList==a5.toList)=true then
 zaI t n k a1 a2 (IntKind.wrap .i64 (a3+1))
 else
 some (.inl false)
 | none=>none)
 | none=>none)
 else none
 else
 some (.inr (a1,a2,a3,(decide (a3 < (a1.length:Int)))))
def zaO (t:Tab) (n:Nat):(List ByteArray)→(List ByteArray)→Option Bool
 | a1,a2=>
 if ((a1.length:Int) !=(a2.length:Int))=true then
 some false
 else
 (match zaI t n n a1 a2 0 with
 | some (.inl a3)=>
 some a3
 | some (.inr (a4,a5,a6,a7))=>
 some true
 | none=>none)
def zaw (t:Tab) (n:Nat):Nat→(List Int)→(List Int)→Int→Option (Bool⊕((List Int) × (List Int) × Int × Bool))
 | 0,_,_,_=>none
 | k+1,a1,a2,a3=>
 if (decide (a3 < (a1.length:Int)))=true then
 if (decide (0≤(a3:Int)))=true then
 (match a1[(a3:Int).toNat]? with
 | some a4=>
 (match a2[(a3:Int).toNat]? with
 | some a5=>
 if (a4 !=a5)=true then
 some (.inl false)
 else
 zaw t n k a1 a2 (IntKind.wrap .i64 (a3+1))
 | none=>none)
 | none=>none)
 else none
 else
 some (.inr (a1,a2,a3,(decide (a3 < (a1.length:Int)))))
def zaQ (t:Tab) (n:Nat):(List Int)→(List Int)→Option Bool
 | a1,a2=>
 if ((a1.length:Int) !=(a2.length:Int))=true then
 some false
 else
 (match zaw t n n a1 a2 0 with
 | some (.inl a3)=>
 some a3
 | some (.inr (a4,a5,a6,a7))=>
 some true
 | none=>none)
def zcW (t:Tab) (n:Nat) (a1 a2 a3 a4 a5:Int) (a6:ByteArray) (a7 a8:List zh):Option (Int × Int × Int × Int × Int × ByteArray × (List zh) × (List zh)):=
 if (decide (0≤(a3:Int)))=true then
 (match a7[(a3:Int).toNat]? with
 | some ⟨a9,a10,a11,a12,a13⟩=>
 (match t.zbD (zh.mk a9 a10 a11 a12 a13) (IntKind.wrap .i64 (a1-a2))with
 | some a14=>
 some (a1,(IntKind.wrap .i64 (a2+a14)),(IntKind.wrap .i64 (a3+1)),a4,a5,a6,a7,a8)
 | none=>none)
 | none=>none)
 else none
def zbL (t:Tab) (n:Nat):Nat→Int→Int→Int→Int→Int→ByteArray→(List zh)→(List zh)→Option (Int × Int × Int × Bool × Int × Int × ByteArray × (List zh) × (List zh))
 | 0,_,_,_,_,_,_,_,_=>none
 | k+1,a1,a2,a3,a4,a5,a6,a7,a8=>
 if (decide (a3 < (a7.length:Int)))=true then
 if (decide (a2 < a1))=true then
 (match zcW t n a1 a2 a3 a4 a5 a6 a7 a8 with
 | some (a9,a10,a11,a12,a13,a14,a15,a16)=>
 zbL t n k a9 a10 a11 a12 a13 a14 a15 a16
 | none=>none)
 else
 some (a1,a2,a3,(decide (a2 < a1)),a4,a5,a6,a7,a8)
 else
 some (a1,a2,a3,false,a4,a5,a6,a7,a8)
def zcX (t:Tab) (n:Nat) (a1 a2 a3 a4 a5:Int) (a6:ByteArray) (a7 a8:List zh):Option (Int × Int × Int × Int × Int × ByteArray × (List zh) × (List zh)):=
 if (decide (0≤(a3:Int)))=true then
 (match a8[(a3:Int).toNat]? with
 | some ⟨a9,a10,a11,a12,a13⟩=>
 (match t.zbD (zh.mk a9 a10 a11 a12 a13) (IntKind.wrap .i64 (a1-a2))with
 | some a14=>
 some (a1,(IntKind.wrap .i64 (a2+a14)),(IntKind.wrap .i64 (a3+1)),a4,a5,a6,a7,a8)
 | none=>none)
 | none=>none)
 else none
def zbM (t:Tab) (n:Nat):Nat→Int→Int→Int→Int→Int→ByteArray→(List zh)→(List zh)→Option (Int × Int × Int × Bool × Int × Int × ByteArray × (List zh) × (List zh))
 | 0,_,_,_,_,_,_,_,_=>none
 | k+1,a1,a2,a3,a4,a5,a6,a7,a8=>
 if (decide (a3 < (a8.length:Int)))=true then
 if (decide (a2 < a1))=true then
 (match zcX t n a1 a2 a3 a4 a5 a6 a7 a8 with
 | some (a9,a10,a11,a12,a13,a14,a15,a16)=>
 zbM t n k a9 a10 a11 a12 a13 a14 a15 a16
 | none=>none)
 else
 some (a1,a2,a3,(decide (a2 < a1)),a4,a5,a6,a7,a8)
 else
 some (a1,a2,a3,false,a4,a5,a6,a7,a8)
def zdE (t:Tab) (n:Nat) (a1 a2 a3:Int) (a4:ByteArray) (a5 a6:List zh):Option Int:=
 (match quoI .i64 (a4.size:Int) 20 with
 | some a7=>
 some (IntKind.wrap .i64 (a1+a7))
 | none=>none)
def zdF (t:Tab) (n:Nat) (a1 a2 a3 a4:Int) (a5:ByteArray) (a6 a7:List zh):Option Int:=
 (match zbM t n n a1 a2 0 a3 a4 a5 a6 a7 with
 | some (a8,a9,a10,a11,a12,a13,a14,a15,a16)=>
 zdE t n a9 a12 a13 a14 a15 a16
 | none=>none)
def zbD (t:Tab) (n:Nat):zh→Int→Option Int
 | ⟨a1,a2,a3,a4,a5⟩,a6=>
 (match zbL t n n a6 1 0 a1 a2 a3 a4 a5 with
 | some (a7,a8,a9,a10,a11,a12,a13,a14,a15)=>
 zdF t n a7 a8 a11 a12 a13 a14 a15
 | none=>none)
def zcY (t:Tab) (n:Nat) (a1 a2 a3 a4:Int) (a5:List zh) (a6:List GPred):Option (Int × Int × Int × Int × (List zh) × (List GPred)):=
 if (decide (0≤(a3:Int)))=true then
 (match a6[(a3:Int).toNat]? with
 | some ⟨a7,a8,a9⟩=>
 (match t.zcJ (GPred.mk a7 a8 a9) (IntKind.wrap .i64 (a1-a2))with
 | some a10=>
 some (a1,(IntKind.wrap .i64 (a2+a10)),(IntKind.wrap .i64 (a3+1)),a4,a5,a6)
 | none=>none)
 | none=>none)
 else none
def zbN (t:Tab) (n:Nat):Nat→Int→Int→Int→Int→(List zh)→(List GPred)→Option (Int × Int × Int × Bool × Int × (List zh) × (List GPred))
 | 0,_,_,_,_,_,_=>none
 | k+1,a1,a2,a3,a4,a5,a6=>
 if (decide (a3 < (a6.length:Int)))=true then
 if (decide (a2 < a1))=true then
 (match zcY t n a1 a2 a3 a4 a5 a6 with
 | some (a7,a8,a9,a10,a11,a12)=>
 zbN t n k a7 a8 a9 a10 a11 a12
 | none=>none)
 else
 some (a1,a2,a3,(decide (a2 < a1)),a4,a5,a6)
 else
 some (a1,a2,a3,false,a4,a5,a6)
def zcJ (t:Tab) (n:Nat):GPred→Int→Option Int
 | ⟨a1,a2,a3⟩,a4=>
 (match t.zdr a2 a4 with
 | some a5=>
 (match zbN t n n a4 (IntKind.wrap .i64 (1+a5)) 0 a1 a2 a3 with
 | some (a6,a7,a8,a9,a10,a11,a12)=>
 some a7
 | none=>none)
 | none=>none)
def zbw (t:Tab) (n:Nat) (a1:List (List GStep)) (a2:Int) (a3:Bool) (a4:Int) (a5:List ByteArray) (a6:List Int) (a7 a8:Int) (a9:ByteArray) (a10 a11:List zh) (a12:Int) (a13:List zh) (a14:List GPred) (a15:List (List GStep)) (a16:List GBy) (a17:List ByteArray):Option ((List (List GStep)) × Int × Int × (List ByteArray) × (List Int) × Int × Int × ByteArray × (List zh) × (List zh) × Int × (List zh) × (List GPred) × (List (List GStep)) × (List GBy) × (List ByteArray)):=
 if a3=true then
 if (decide (0≤(a2:Int)))=true then
 (match a16[(a2:Int).toNat]? with
 | some ⟨a18,a19,a20,a21⟩=>
 if (a1.length+([a20]:List (List GStep)).length) * 24≤140737488355328 then
 some ((a1++([a20]:List (List GStep))),a2,a4,a5,a6,a7,a8,a9,a10,a11,a12,a13,a14,a15,a16,a17)
 else none
 | none=>none)
 else none
 else
 some (a1,a2,a4,a5,a6,a7,a8,a9,a10,a11,a12,a13,a14,a15,a16,a17)
def zbx (t:Tab) (n:Nat):Nat→(List (List GStep))→Int→Int→(List ByteArray)→(List Int)→Int→Int→ByteArray→(List zh)→(List zh)→Int→(List zh)→(List GPred)→(List (List GStep))→(List GBy)→(List ByteArray)→Option ((List (List GStep)) × Int × Bool × Int × (List ByteArray) × (List Int) × Int × Int × ByteArray × (List zh) × (List zh) × Int × (List zh) × (List GPred) × (List (List GStep)) × (List GBy) × (List ByteArray))
 | 0,_,_,_,_,_,_,_,_,_,_,_,_,_,_,_,_=>none
 | k+1,a1,a2,a3,a4,a5,a6,a7,a8,a9,a10,a11,a12,a13,a14,a15,a16=>
 if (decide (a2 < (a15.length:Int)))=true then
 if (decide (0≤(a2:Int)))=true then
 (match a15[(a2:Int).toNat]? with
 | some ⟨a17,a18,a19,a20⟩=>
 if (a17==3)=true then
 (match zbw t n a1 a2 true a3 a4 a5 a6 a7 a8 a9 a10 a11 a12 a13 a14 a15 a16 with
 | some (a21,a22,a23,a24,a25,a26,a27,a28,a29,a30,a31,a32,a33,a34,a35,a36)=>
 zbx t n k a21 (IntKind.wrap .i64 (a22+1)) a23 a24 a25 a26 a27 a28 a29 a30 a31 a32 a33 a34 a35 a36
 | none=>none)
 else
 (match zbw t n a1 a2 (decide ((a19.length:Int) > 0)) a3 a4 a5 a6 a7 a8 a9 a10 a11 a12 a13 a14 a15 a16 with
 | some (a37,a38,a39,a40,a41,a42,a43,a44,a45,a46,a47,a48,a49,a50,a51,a52)=>
 zbx t n k a37 (IntKind.wrap .i64 (a38+1)) a39 a40 a41 a42 a43 a44 a45 a46 a47 a48 a49 a50 a51 a52
 | none=>none)
 | none=>none)
 else none
 else
 some (a1,a2,(decide (a2 < (a15.length:Int))),a3,a4,a5,a6,a7,a8,a9,a10,a11,a12,a13,a14,a15,a16)
def zc8 (t:Tab) (n:Nat):GStep→Option (List (List GStep))
 | ⟨a1,a2,a3,⟨a4,a5,a6,a7,a8⟩,⟨a9,a10,a11⟩,a12,a13,a14⟩=>
 if (([]:List (List GStep)).length+a12.length) * 24≤140737488355328 then
 (match zbx t n n (([]:List (List GStep))++a12) 0 a1 a2 a3 a4 a5 a6 a7 a8 a9 a10 a11 a12 a13 a14 with
 | some (a15,a16,a17,a18,a19,a20,a21,a22,a23,a24,a25,a26,a27,a28,a29,a30,a31)=>
 some a15
 | none=>none)
 else none
def za6 (t:Tab) (n:Nat):Nat→(List GStep)→(List GCode)→Int→Int→(List Int)→Int→Int→GCode→Int→(List ByteArray)→(List Int)→zh→GPred→(List (List GStep))→(List GBy)→(List ByteArray)→zD→Option (((List GStep) × Bool × zD)⊕((List GStep) × (List GCode) × Int × Int × (List Int) × Int × Int × Bool × GCode × Int × (List ByteArray) × (List Int) × zh × GPred × (List (List GStep)) × (List GBy) × (List ByteArray) × zD))
 | 0,_,_,_,_,_,_,_,_,_,_,_,_,_,_,_,_,_=>none
 | k+1,a1,a2,a3,a4,a5,a6,a7,⟨a8,a9,a10,⟨a11,a12,a13,a14,a15⟩,⟨a16,a17,a18⟩,a19,a20,a21⟩,a22,a23,a24,⟨a25,a26,a27,a28,a29⟩,⟨a30,a31,a32⟩,a33,a34,a35,⟨a36,a37⟩=>
 if (decide (a7 < a6))=true then
 if (decide (0≤(a7:Int)))=true then
 (match a5[(a7:Int).toNat]? with
 | some a38=>
 (match t.zaM a38 (zD.mk a36 a37)with
 | some (a39,a40,⟨a41,a42⟩)=>
 if a40=true then
 if (a33.length+([a39]:List (List GStep)).length) * 24≤140737488355328 then
 za6 t n k a1 a2 a3 a4 a5 a6 (IntKind.wrap .i64 (a7+1)) (GCode.mk a8 a9 a10 (zh.mk a11 a12 a13 a14 a15) (GPred.mk a16 a17 a18) a19 a20 a21) a22 a23 a24 (zh.mk a25 a26 a27 a28 a29) (GPred.mk a30 a31 a32) (a33++([a39]:List (List GStep))) a34 a35 (zD.mk a41 a42)
 else none
 else
 some (.inl (([]:List GStep),false,(zD.mk a41 a42)))
 | none=>none)
 | none=>none)
 else none
 else
 some (.inr (a1,a2,a3,a4,a5,a6,a7,(decide (a7 < a6)),(GCode.mk a8 a9 a10 (zh.mk a11 a12 a13 a14 a15) (GPred.mk a16 a17 a18) a19 a20 a21),a22,a23,a24,(zh.mk a25 a26 a27 a28 a29),(GPred.mk a30 a31 a32),a33,a34,a35,(zD.mk a36 a37)))
def za7 (t:Tab) (n:Nat):(List GStep)→(List GCode)→Int→Int→(List GKey)→Int→Int→Int→(List ByteArray)→(List Int)→zh→GPred→(List (List GStep))→(List GBy)→(List ByteArray)→GBy→zD→Option ((List GStep) × (List GCode) × Int × Int × (List GKey) × Int × Int × Int × (List ByteArray) × (List Int) × zh × GPred × (List (List GStep)) × (List GBy) × (List ByteArray) × zD)
 | a1,a2,a3,a4,a5,a6,a7,a8,a9,a10,⟨a11,a12,a13,a14,a15⟩,⟨a16,a17,a18⟩,a19,a20,a21,⟨a22,a23,a24,a25⟩,⟨a26,a27⟩=>
 if (a20.length+([(GBy.mk a22 a23 a24 a25)]:List GBy).length) * 56≤140737488355328 then
 some (a1,a2,a3,a4,a5,a6,a7,a8,a9,a10,(zh.mk a11 a12 a13 a14 a15),(GPred.mk a16 a17 a18),a19,(a20++([(GBy.mk a22 a23 a24 a25)]:List GBy)),a21,(zD.mk a26 a27))
 else none
def zaX (t:Tab) (n:Nat):Nat→(List GStep)→(List GCode)→Int→Int→(List GKey)→Int→Int→Int→(List ByteArray)→(List Int)→zh→GPred→(List (List GStep))→(List GBy)→(List ByteArray)→zD→Option (((List GStep) × Bool × zD)⊕((List GStep) × (List GCode) × Int × Int × (List GKey) × Int × Int × Bool × Int × (List ByteArray) × (List Int) × zh × GPred × (List (List GStep)) × (List GBy) × (List ByteArray) × zD))
 | 0,_,_,_,_,_,_,_,_,_,_,_,_,_,_,_,_=>none
 | k+1,a1,a2,a3,a4,a5,a6,a7,a8,a9,a10,⟨a11,a12,a13,a14,a15⟩,⟨a16,a17,a18⟩,a19,a20,a21,⟨a22,a23⟩=>
 if (decide (a7 < a6))=true then
 if (decide (0≤(a7:Int)))=true then
 (match a5[(a7:Int).toNat]? with
 | some ⟨a24,a25,a26,a27⟩=>
 if (a24==3)=true then
 (match t.zaM a26 (zD.mk a22 a23)with
 | some (a28,a29,⟨a30,a31⟩)=>
 if a29=true then
 (match za7 t n a1 a2 a3 a4 a5 a6 a7 a8 a9 a10 (zh.mk a11 a12 a13 a14 a15) (GPred.mk a16 a17 a18) a19 a20 a21 (GBy.mk a24 a25 a28 a27) (zD.mk a30 a31)with
 | some (a32,a33,a34,a35,a36,a37,a38,a39,a40,a41,⟨a42,a43,a44,a45,a46⟩,⟨a47,a48,a49⟩,a50,a51,a52,⟨a53,a54⟩)=>
 zaX t n k a32 a33 a34 a35 a36 a37 (IntKind.wrap .i64 (a38+1)) a39 a40 a41 (zh.mk a42 a43 a44 a45 a46) (GPred.mk a47 a48 a49) a50 a51 a52 (zD.mk a53 a54)
 | none=>none)
 else
 some (.inl (([]:List GStep),false,(zD.mk a30 a31)))
 | none=>none)
 else
 if (a26 !=0)=true then
 some (.inl (([]:List GStep),false,(zD.mk a22 a23)))
 else
 (match za7 t n a1 a2 a3 a4 a5 a6 a7 a8 a9 a10 (zh.mk a11 a12 a13 a14 a15) (GPred.mk a16 a17 a18) a19 a20 a21 (GBy.mk a24 a25 ([]:List GStep) a27) (zD.mk a22 a23)with
 | some (a55,a56,a57,a58,a59,a60,a61,a62,a63,a64,⟨a65,a66,a67,a68,a69⟩,⟨a70,a71,a72⟩,a73,a74,a75,⟨a76,a77⟩)=>
 zaX t n k a55 a56 a57 a58 a59 a60 (IntKind.wrap .i64 (a61+1)) a62 a63 a64 (zh.mk a65 a66 a67 a68 a69) (GPred.mk a70 a71 a72) a73 a74 a75 (zD.mk a76 a77)
 | none=>none)
 | none=>none)
 else none
 else
 some (.inr (a1,a2,a3,a4,a5,a6,a7,(decide (a7 < a6)),a8,a9,a10,(zh.mk a11 a12 a13 a14 a15),(GPred.mk a16 a17 a18),a19,a20,a21,(zD.mk a22 a23)))
def zbG (t:Tab) (n:Nat):(List GStep)→(List GCode)→Int→Int→Int→(List ByteArray)→(List Int)→zh→GPred→(List (List GStep))→(List GBy)→(List ByteArray)→zD→Option ((List GStep) × (List GCode) × Int × Int × zD)
 | a1,a2,a3,a4,a5,a6,a7,⟨a8,a9,a10,a11,a12⟩,⟨a13,a14,a15⟩,a16,a17,a18,⟨a19,a20⟩=>
 if (a1.length+([(GStep.mk a5 a6 a7 (zh.mk a8 a9 a10 a11 a12) (GPred.mk a13 a14 a15) a16 a17 a18)]:List GStep).length) * 264≤140737488355328 then
 some ((a1++([(GStep.mk a5 a6 a7 (zh.mk a8 a9 a10 a11 a12) (GPred.mk a13 a14 a15) a16 a17 a18)]:List GStep)),a2,a3,a4,(zD.mk a19 a20))
 else none
def zbl (t:Tab) (n:Nat):(List GStep)→(List GCode)→Int→Int→GCode→Int→(List ByteArray)→(List Int)→zh→GPred→(List (List GStep))→(List GBy)→(List ByteArray)→zD→Option (((List GStep) × Bool × zD)⊕((List GStep) × (List GCode) × Int × Int × zD))
 | a1,a2,a3,a4,⟨a5,a6,a7,⟨a8,a9,a10,a11,a12⟩,⟨a13,a14,a15⟩,a16,a17,a18⟩,a19,a20,a21,⟨a22,a23,a24,a25,a26⟩,⟨a27,a28,a29⟩,a30,a31,a32,⟨a33,a34⟩=>
 (match zaX t n n a1 a2 a3 a4 a17 (a17.length:Int) 0 a19 a20 a21 (zh.mk a22 a23 a24 a25 a26) (GPred.mk a27 a28 a29) a30 a31 a32 (zD.mk a33 a34)with
 | some (.inl (a35,a36,⟨a37,a38⟩))=>
 some (.inl (a35,a36,(zD.mk a37 a38)))
 | some (.inr (a39,a40,a41,a42,a43,a44,a45,a46,a47,a48,a49,⟨a50,a51,a52,a53,a54⟩,⟨a55,a56,a57⟩,a58,a59,a60,⟨a61,a62⟩))=>
 (match zbG t n a39 a40 a41 a42 a47 a48 a49 (zh.mk a50 a51 a52 a53 a54) (GPred.mk a55 a56 a57) a58 a59 a60 (zD.mk a61 a62)with
 | some (a63,a64,a65,a66,⟨a67,a68⟩)=>
 some (.inr (a63,a64,a65,a66,(zD.mk a67 a68)))
 | none=>none)
 | none=>none)
def zbm (t:Tab) (n:Nat):Nat→(List GStep)→(List GCode)→Int→Int→zD→Option (((List GStep) × Bool × zD)⊕((List GStep) × (List GCode) × Int × Int × Bool × zD))
 | 0,_,_,_,_,_=>none
 | k+1,a1,a2,a3,a4,⟨a5,a6⟩=>
 if (decide (a4 < a3))=true then
 if (decide (0≤(a4:Int)))=true then
 (match a2[(a4:Int).toNat]? with
 | some ⟨a7,a8,a9,⟨a10,a11,a12,a13,a14⟩,⟨a15,a16,a17⟩,a18,a19,a20⟩=>
 (match za6 t n n a1 a2 a3 a4 a18 (a18.length:Int) 0 (GCode.mk a7 a8 a9 (zh.mk a10 a11 a12 a13 a14) (GPred.mk a15 a16 a17) a18 a19 a20) a7 a8 a9 (zh.mk a10 a11 a12 a13 a14) (GPred.mk a15 a16 a17) ([]:List (List GStep)) ([]:List GBy) a20 (zD.mk a5 a6)with
 | some (.inl (a21,a22,⟨a23,a24⟩))=>
 some (.inl (a21,a22,(zD.mk a23 a24)))
 | some (.inr (a25,a26,a27,a28,a29,a30,a31,a32,⟨a33,a34,a35,⟨a36,a37,a38,a39,a40⟩,⟨a41,a42,a43⟩,a44,a45,a46⟩,a47,a48,a49,⟨a50,a51,a52,a53,a54⟩,⟨a55,a56,a57⟩,a58,a59,a60,⟨a61,a62⟩))=>
 (match zbl t n a25 a26 a27 a28 (GCode.mk a33 a34 a35 (zh.mk a36 a37 a38 a39 a40) (GPred.mk a41 a42 a43) a44 a45 a46) a47 a48 a49 (zh.mk a50 a51 a52 a53 a54) (GPred.mk a55 a56 a57) a58 a59 a60 (zD.mk a61 a62)with
 | some (.inl (a63,a64,⟨a65,a66⟩))=>
 some (.inl (a63,a64,(zD.mk a65 a66)))
 | some (.inr (a67,a68,a69,a70,⟨a71,a72⟩))=>
 zbm t n k a67 a68 a69 (IntKind.wrap .i64 (a70+1)) (zD.mk a71 a72)
 | none=>none)
 | none=>none)
 | none=>none)
 else none
 else
 some (.inr (a1,a2,a3,a4,(decide (a4 < a3)),(zD.mk a5 a6)))
def zbH (t:Tab) (n:Nat):Int→zD→Option ((List GStep) × Bool × zD)
 | a1,⟨a2,a3⟩=>
 if (decide (0≤(a1:Int)))=true then
 (match a2[(a1:Int).toNat]? with
 | some a4=>
 (match zbm t n n ([]:List GStep) a4 (a4.length:Int) 0 (zD.mk a2 (IntKind.wrap .i64 (a3+1)))with
 | some (.inl (a5,a6,⟨a7,a8⟩))=>
 some (a5,a6,(zD.mk a7 a8))
 | some (.inr (a9,a10,a11,a12,a13,⟨a14,a15⟩))=>
 some (a9,true,(zD.mk a14 a15))
 | none=>none)
 | none=>none)
 else none
def zaM (t:Tab) (n:Nat):Int→zD→Option ((List GStep) × Bool × zD)
 | a1,⟨a2,a3⟩=>
 if (a1 !=a3)=true then
 some (([]:List GStep),false,(zD.mk a2 a3))
 else
 if (decide (a1≥(a2.length:Int)))=true then
 some (([]:List GStep),false,(zD.mk a2 a3))
 else
 (match zbH t n a1 (zD.mk a2 a3)with
 | some (a4,a5,⟨a6,a7⟩)=>
 some (a4,a5,(zD.mk a6 a7))
 | none=>none)
def zc6 (t:Tab) (n:Nat):(List GStep)→Option Int
 | a1=>
 t.zco a1 401 1
def za5 (t:Tab) (n:Nat):(List GStep)→Int→Option Bool
 | a1,a2=>
 if (decide (a2≤11))=true then
 (match t.zO a1 a2 with
 | some a3=>
 some (!a3)
 | none=>none)
 else
 some false
def zci (t:Tab) (n:Nat):Nat→Int→(List GStep)→(List GStep)→Int→Int→(List GBy)→Int→Int→Int→(List ByteArray)→(List Int)→Int→Int→ByteArray→(List zh)→(List zh)→Int→(List zh)→(List GPred)→(List (List GStep))→(List GBy)→(List ByteArray)→Option (Int × (List GStep) × (List GStep) × Int × Int × (List GBy) × Int × Int × Bool × Int × (List ByteArray) × (List Int) × Int × Int × ByteArray × (List zh) × (List zh) × Int × (List zh) × (List GPred) × (List (List GStep)) × (List GBy) × (List ByteArray))
 | 0,_,_,_,_,_,_,_,_,_,_,_,_,_,_,_,_,_,_,_,_,_,_=>none
 | k+1,a1,a2,a3,a4,a5,a6,a7,a8,a9,a10,a11,a12,a13,a14,a15,a16,a17,a18,a19,a20,a21,a22=>
 if (decide (a8 < a7))=true then
 if (decide (0≤(a8:Int)))=true then
 (match a6[(a8:Int).toNat]? with
 | some ⟨a23,a24,a25,a26⟩=>
 (match t.za3 a25 (IntKind.wrap .i64 (a1+1))with
 | some a27=>
 if (a21.length+([(GBy.mk a23 a24 a27 a26)]:List GBy).length) * 56≤140737488355328 then
 zci t n k a1 a2 a3 a4 a5 a6 a7 (IntKind.wrap .i64 (a8+1)) a9 a10 a11 a12 a13 a14 a15 a16 a17 a18 a19 a20 (a21++([(GBy.mk a23 a24 a27 a26)]:List GBy)) a22
 else none
 | none=>none)
 | none=>none)
 else none
 else
 some (a1,a2,a3,a4,a5,a6,a7,a8,(decide (a8 < a7)),a9,a10,a11,a12,a13,a14,a15,a16,a17,a18,a19,a20,a21,a22)
def zcZ (t:Tab) (n:Nat) (a1:Int) (a2 a3:List GStep) (a4 a5 a6:Int) (a7:List ByteArray) (a8:List Int) (a9 a10:Int) (a11:ByteArray) (a12 a13:List zh) (a14:Int) (a15:List zh) (a16:List GPred) (a17:List (List GStep)) (a18:List GBy) (a19:List ByteArray):Option (Int × (List GStep) × (List GStep) × Int × Int):=
 if (a2.length+([(GStep.mk a6 a7 a8 (zh.mk a9 a10 a11 a12 a13) (GPred.mk a14 a15 a16) a17 a18 a19)]:List GStep).length) * 264≤140737488355328 then
 some (a1,(a2++([(GStep.mk a6 a7 a8 (zh.mk a9 a10 a11 a12 a13) (GPred.mk a14 a15 a16) a17 a18 a19)]:List GStep)),a3,a4,a5)
 else none
def zcj (t:Tab) (n:Nat):Nat→Int→(List GStep)→(List GStep)→Int→Int→Option (Int × (List GStep) × (List GStep) × Int × Int × Bool)
 | 0,_,_,_,_,_=>none
 | k+1,a1,a2,a3,a4,a5=>
 if (decide (a5 < a4))=true then
 if (decide (0≤(a5:Int)))=true then
 (match a3[(a5:Int).toNat]? with
 | some ⟨a6,a7,a8,⟨a9,a10,a11,a12,a13⟩,⟨a14,a15,a16⟩,a17,a18,a19⟩=>
 (match t.slices_Clone_string a7 with
 | some a20=>
 (match t.slices_Clone_int a8 with
 | some a21=>
 (match t.zcM (zh.mk a9 a10 a11 a12 a13)with
 | some ⟨a22,a23,a24,a25,a26⟩=>
 (match t.zdH (GPred.mk a14 a15 a16)with
 | some ⟨a27,a28,a29⟩=>
 (match t.slices_Clone_string a19 with
 | some a30=>
 (match t.zdf a17 (IntKind.wrap .i64 (a1+1))with
 | some a31=>
 (match zci t n n a1 a2 a3 a4 a5 a18 (a18.length:Int) 0 a6 a20 a21 a22 a23 a24 a25 a26 a27 a28 a29 a31 ([]:List GBy) a30 with
 | some (a32,a33,a34,a35,a36,a37,a38,a39,a40,a41,a42,a43,a44,a45,a46,a47,a48,a49,a50,a51,a52,a53,a54)=>
 (match zcZ t n a32 a33 a34 a35 a36 a41 a42 a43 a44 a45 a46 a47 a48 a49 a50 a51 a52 a53 a54 with
 | some (a55,a56,a57,a58,a59)=>
 zcj t n k a55 a56 a57 a58 (IntKind.wrap .i64 (a59+1))
 | none=>none)
 | none=>none)
 | none=>none)
 | none=>none)
 | none=>none)
 | none=>none)
 | none=>none)
 | none=>none)
 | none=>none)
 else none
 else
 some (a1,a2,a3,a4,a5,(decide (a5 < a4)))
def za3 (t:Tab) (n:Nat):(List GStep)→Int→Option (List GStep)
 | a1,a2=>
 if (decide (a2 > 12))=true then
 some ([]:List GStep)
 else
 (match zcj t n n a2 ([]:List GStep) a1 (a1.length:Int) 0 with
 | some (a3,a4,a5,a6,a7,a8)=>
 some a4
 | none=>none)
def zca (t:Tab) (n:Nat):(List GCode)→(List GCode)→Option Bool
 | a1,a2=>
 t.zaj a1 a2
def zbb (t:Tab) (n:Nat) (a1 a2:Int) (a3:Bool) (a4 a5:Int) (a6:ByteArray) (a7 a8:List zh) (a9 a10:Int) (a11:ByteArray) (a12 a13:List zh):Option (Int × Int × Int × Int × ByteArray × (List zh) × (List zh) × Int × Int × ByteArray × (List zh) × (List zh)):=
 if a3=true then
 (match t.zdg a7 a12 (IntKind.wrap .i64 (a1+1))with
 | some a14=>
 some (a1,a14,a4,a5,a6,a7,a8,a9,a10,a11,a12,a13)
 | none=>none)
 else
 some (a1,a2,a4,a5,a6,a7,a8,a9,a10,a11,a12,a13)
def zck (t:Tab) (n:Nat) (a1 a2:Int) (a3:Bool) (a4 a5:Int) (a6:ByteArray) (a7 a8:List zh) (a9 a10:Int) (a11:ByteArray) (a12 a13:List zh):Option Int:=
 if a3=true then
 t.zdg a8 a13 (IntKind.wrap .i64 (a1+1))
 else
 some a2
def zcl (t:Tab) (n:Nat) (a1 a2 a3 a4:Int) (a5:ByteArray) (a6 a7:List zh) (a8 a9:Int) (a10:ByteArray) (a11 a12:List zh):Option Int:=
 if (a2==0)=true then
 zck t n a1 a2 (decide (a1≤12)) a3 a4 a5 a6 a7 a8 a9 a10 a11 a12
 else
 zck t n a1 a2 false a3 a4 a5 a6 a7 a8 a9 a10 a11 a12
def zcm (t:Tab) (n:Nat) (a1 a2 a3 a4:Int) (a5:ByteArray) (a6 a7:List zh) (a8 a9:Int) (a10:ByteArray) (a11 a12:List zh):Option Int:=
 if (a2==0)=true then
 (match zbb t n a1 a2 (decide (a1≤12)) a3 a4 a5 a6 a7 a8 a9 a10 a11 a12 with
 | some (a13,a14,a15,a16,a17,a18,a19,a20,a21,a22,a23,a24)=>
 zcl t n a13 a14 a15 a16 a17 a18 a19 a20 a21 a22 a23 a24
 | none=>none)
 else
 (match zbb t n a1 a2 false a3 a4 a5 a6 a7 a8 a9 a10 a11 a12 with
 | some (a26,a27,a28,a29,a30,a31,a32,a33,a34,a35,a36,a37)=>
 zcl t n a26 a27 a28 a29 a30 a31 a32 a33 a34 a35 a36 a37
 | none=>none)
def zcn (t:Tab) (n:Nat) (a1 a2 a3 a4:Int) (a5:ByteArray) (a6 a7:List zh) (a8 a9:Int) (a10:ByteArray) (a11 a12:List zh):Option Int:=
 if (a2==0)=true then
 (match t.zdj a5 a10 with
 | some a13=>
 zcm t n a1 a13 a3 a4 a5 a6 a7 a8 a9 a10 a11 a12
 | none=>none)
 else
 zcm t n a1 a2 a3 a4 a5 a6 a7 a8 a9 a10 a11 a12
def zaJ (t:Tab) (n:Nat):zh→zh→Int→Option Int
 | ⟨a1,a2,a3,a4,a5⟩,⟨a6,a7,a8,a9,a10⟩,a11=>
 (match t.zbg a1 a6 with
 | some a12=>
 if (a12==0)=true then
 (match t.zbg a2 a7 with
 | some a13=>
 zcn t n a11 a13 a1 a2 a3 a4 a5 a6 a7 a8 a9 a10
 | none=>none)
 else
 zcn t n a11 a12 a1 a2 a3 a4 a5 a6 a7 a8 a9 a10
 | none=>none)
def zaR (t:Tab) (n:Nat):Nat→(List zh)→(List zh)→Int→Option (Bool⊕((List zh) × (List zh) × Int × Bool))
 | 0,_,_,_=>none
 | k+1,a1,a2,a3=>
 if (decide (a3 < (a1.length:Int)))=true then
 if (decide (0≤(a3:Int)))=true then
 (match a1[(a3:Int).toNat]? with
 | some ⟨a4,a5,a6,a7,a8⟩=>
 (match a2[(a3:Int).toNat]? with
 | some ⟨a9,a10,a11,a12,a13⟩=>
 (match t.zb0 (zh.mk a4 a5 a6 a7 a8) (zh.mk a9 a10 a11 a12 a13)with
 | some a14=>
 if a14=true then
 zaR t n k a1 a2 (IntKind.wrap .i64 (a3+1))
 else
 some (.inl false)
 | none=>none)
 | none=>none)
 | none=>none)
 else none
 else
 some (.inr (a1,a2,a3,(decide (a3 < (a1.length:Int)))))
def zbO (t:Tab) (n:Nat):(List zh)→(List zh)→Option Bool
 | a1,a2=>
 if ((a1.length:Int) !=(a2.length:Int))=true then
 some false
 else
 (match zaR t n n a1 a2 0 with
 | some (.inl a3)=>
 some a3
 | some (.inr (a4,a5,a6,a7))=>
 some true
 | none=>none)
def zdd (t:Tab) (n:Nat) (a1:List zh) (a2 a3 a4:Int):Option ((List zh) × Int × Int × Int):=
 if (decide (0≤(a4:Int)))=true then
 (match a1[(a4:Int).toNat]? with
 | some ⟨a5,a6,a7,a8,a9⟩=>
 (match t.zbD (zh.mk a5 a6 a7 a8 a9) (IntKind.wrap .i64 (a2-a3))with
 | some a10=>
 some (a1,a2,(IntKind.wrap .i64 (a3+a10)),(IntKind.wrap .i64 (a4+1)))
 | none=>none)
 | none=>none)
 else none
def zct (t:Tab) (n:Nat):Nat→(List zh)→Int→Int→Int→Option ((List zh) × Int × Int × Int × Bool)
 | 0,_,_,_,_=>none
 | k+1,a1,a2,a3,a4=>
 if (decide (a4 < (a1.length:Int)))=true then
 if (decide (a3 < a2))=true then
 (match zdd t n a1 a2 a3 a4 with
 | some (a5,a6,a7,a8)=>
 zct t n k a5 a6 a7 a8
 | none=>none)
 else
 some (a1,a2,a3,a4,(decide (a3 < a2)))
 else
 some (a1,a2,a3,a4,false)
def zdr (t:Tab) (n:Nat):(List zh)→Int→Option Int
 | a1,a2=>
 (match zct t n n a1 a2 0 0 with
 | some (a3,a4,a5,a6,a7)=>
 some a5
 | none=>none)
def zb2 (t:Tab) (n:Nat) (a1 a2 a3:Int) (a4 a5:List GStep) (a6 a7:Int) (a8:List (List GStep)) (a9 a10:Int) (a11:Bool):Option (Int × Int × Int × (List GStep) × Int × Int × (List (List GStep)) × Int × Int):=
 if a11=true then
 (match t.zco a4 (IntKind.wrap .i64 (a1-a3)) (IntKind.wrap .i64 (a2+1))with
 | some a12=>
 some (a1,a2,(IntKind.wrap .i64 (a3+a12)),a5,a6,a7,a8,a9,a10)
 | none=>none)
 else
 some (a1,a2,a3,a5,a6,a7,a8,a9,a10)
def zaZ (t:Tab) (n:Nat):Nat→Int→Int→Int→(List GStep)→Int→Int→(List (List GStep))→Int→Int→Option (Int × Int × Int × (List GStep) × Int × Int × (List (List GStep)) × Int × Int × Bool)
 | 0,_,_,_,_,_,_,_,_,_=>none
 | k+1,a1,a2,a3,a4,a5,a6,a7,a8,a9=>
 if (decide (a9 < a8))=true then
 if (decide (0≤(a9:Int)))=true then
 (match a7[(a9:Int).toNat]? with
 | some a10=>
 if (decide (a2≤11))=true then
 (match zb2 t n a1 a2 a3 a10 a4 a5 a6 a7 a8 a9 (decide (a3 < a1))with
 | some (a11,a12,a13,a14,a15,a16,a17,a18,a19)=>
 zaZ t n k a11 a12 a13 a14 a15 a16 a17 a18 (IntKind.wrap .i64 (a19+1))
 | none=>none)
 else
 (match zb2 t n a1 a2 a3 a10 a4 a5 a6 a7 a8 a9 false with
 | some (a20,a21,a22,a23,a24,a25,a26,a27,a28)=>
 zaZ t n k a20 a21 a22 a23 a24 a25 a26 a27 (IntKind.wrap .i64 (a28+1))
 | none=>none)
 | none=>none)
 else none
 else
 some (a1,a2,a3,a4,a5,a6,a7,a8,a9,(decide (a9 < a8)))
def zbe (t:Tab) (n:Nat):Nat→Int→Int→Int→(List GStep)→Int→Int→Option (Int⊕(Int × Int × Int × (List GStep) × Int × Int × Bool))
 | 0,_,_,_,_,_,_=>none
 | k+1,a1,a2,a3,a4,a5,a6=>
 if (decide (a6 < a5))=true then
 if (decide (0≤(a6:Int)))=true then
 (match a4[(a6:Int).toNat]? with
 | some ⟨a7,a8,a9,⟨a10,a11,a12,a13,a14⟩,⟨a15,a16,a17⟩,a18,a19,a20⟩=>
 if (decide ((IntKind.wrap .i64 (a3+1))≥a1))=true then
 some (.inl a1)
 else
 (match t.zdh (GStep.mk a7 a8 a9 (zh.mk a10 a11 a12 a13 a14) (GPred.mk a15 a16 a17) a18 a19 a20)with
 | some a21=>
 (match zaZ t n n a1 a2 (IntKind.wrap .i64 (a3+1)) a4 a5 a6 a21 (a21.length:Int) 0 with
 | some (a22,a23,a24,a25,a26,a27,a28,a29,a30,a31)=>
 zbe t n k a22 a23 a24 a25 a26 (IntKind.wrap .i64 (a27+1))
 | none=>none)
 | none=>none)
 | none=>none)
 else none
 else
 some (.inr (a1,a2,a3,a4,a5,a6,(decide (a6 < a5))))
def zco (t:Tab) (n:Nat):(List GStep)→Int→Int→Option Int
 | a1,a2,a3=>
 (match zbe t n n a2 a3 0 a1 (a1.length:Int) 0 with
 | some (.inl a4)=>
 some a4
 | some (.inr (a5,a6,a7,a8,a9,a10,a11))=>
 some a7
 | none=>none)
def zO (t:Tab) (n:Nat):(List GStep)→Int→Option Bool
 | a1,a2=>
 (match t.zaf a1 a2 with
 | some a3=>
 some (decide (a3≥0))
 | none=>none)
def zcM (t:Tab) (n:Nat):zh→Option zh
 | ⟨a1,a2,a3,a4,a5⟩=>
 t.zcN (zh.mk a1 a2 a3 a4 a5) 1
def zdH (t:Tab) (n:Nat):GPred→Option GPred
 | ⟨a1,a2,a3⟩=>
 t.zc5 (GPred.mk a1 a2 a3) 1
def zcI (t:Tab) (n:Nat):Nat→Int→(List (List GStep))→(List (List GStep))→Int→Int→Option (Int × (List (List GStep)) × (List (List GStep)) × Int × Int × Bool)
 | 0,_,_,_,_,_=>none
 | k+1,a1,a2,a3,a4,a5=>
 if (decide (a5 < a4))=true then
 if (decide (0≤(a5:Int)))=true then
 (match a3[(a5:Int).toNat]? with
 | some a6=>
 (match t.za3 a6 a1 with
 | some a7=>
 if (a2.length+([a7]:List (List GStep)).length) * 24≤140737488355328 then
 zcI t n k a1 (a2++([a7]:List (List GStep))) a3 a4 (IntKind.wrap .i64 (a5+1))
 else none
 | none=>none)
 | none=>none)
 else none
 else
 some (a1,a2,a3,a4,a5,(decide (a5 < a4)))
def zdf (t:Tab) (n:Nat):(List (List GStep))→Int→Option (List (List GStep))
 | a1,a2=>
 (match zcI t n n a2 ([]:List (List GStep)) a1 (a1.length:Int) 0 with
 | some (a3,a4,a5,a6,a7,a8)=>
 some a4
 | none=>none)
def zX (t:Tab) (n:Nat):Nat→(List GCode)→(List GCode)→Int→Int→Option (Bool⊕((List GCode) × (List GCode) × Int × Int × Bool))
 | 0,_,_,_,_=>none
 | k+1,a1,a2,a3,a4=>
 if (decide (a4 < a3))=true then
 if (decide (0≤(a4:Int)))=true then
 (match a2[(a4:Int).toNat]? with
 | some ⟨a5,a6,a7,⟨a8,a9,a10,a11,a12⟩,⟨a13,a14,a15⟩,a16,a17,a18⟩=>
 (match a1[(a4:Int).toNat]? with
 | some ⟨a19,a20,a21,⟨a22,a23,a24,a25,a26⟩,⟨a27,a28,a29⟩,a30,a31,a32⟩=>
 (match t.zc0 (GCode.mk a5 a6 a7 (zh.mk a8 a9 a10 a11 a12) (GPred.mk a13 a14 a15) a16 a17 a18) (GCode.mk a19 a20 a21 (zh.mk a22 a23 a24 a25 a26) (GPred.mk a27 a28 a29) a30 a31 a32)with
 | some a33=>
 if a33=true then
 zX t n k a1 a2 a3 (IntKind.wrap .i64 (a4+1))
 else
 some (.inl false)
 | none=>none)
 | none=>none)
 | none=>none)
 else none
 else
 some (.inr (a1,a2,a3,a4,(decide (a4 < a3))))
def zaj (t:Tab) (n:Nat):(List GCode)→(List GCode)→Option Bool
 | a1,a2=>
 if ((a1.length:Int) !=(a2.length:Int))=true then
 some false
 else
 (match zX t n n a2 a1 (a1.length:Int) 0 with
 | some (.inl a3)=>
 some a3
 | some (.inr (a4,a5,a6,a7,a8))=>
 some true
 | none=>none)
def zbg (t:Tab) (n:Nat):Int→Int→Option Int
 | a1,a2=>
 if (decide (a1 < a2))=true then
 some (-1)
 else
 if (decide (a1 > a2))=true then
 some 1
 else
 some 0
def zcC (t:Tab) (n:Nat) (a1 a2:ByteArray) (a3:Int):Option (Int⊕(ByteArray × ByteArray × Int)):=
 (match strAt a1 a3 with
 | some a4=>
 (match strAt a2 a3 with
 | some a5=>
 if (a4 !=a5)=true then
 (match t.zbg (IntKind.wrap .i64 a4) (IntKind.wrap .i64 a5)with
 | some a6=>
 some (.inl a6)
 | none=>none)
 else
 some (.inr (a1,a2,(IntKind.wrap .i64 (a3+1))))
 | none=>none)
 | none=>none)
def zby (t:Tab) (n:Nat):Nat→ByteArray→ByteArray→Int→Option (Int⊕(ByteArray × ByteArray × Int × Bool))
 | 0,_,_,_=>none
 | k+1,a1,a2,a3=>
 if (decide (a3 < (a1.size:Int)))=true then
 if (decide (a3 < (a2.size:Int)))=true then
 (match zcC t n a1 a2 a3 with
 | some (.inl a4)=>
 some (.inl a4)
 | some (.inr (a5,a6,a7))=>
 zby t n k a5 a6 a7
 | none=>none)
 else
 some (.inr (a1,a2,a3,(decide (a3 < (a2.size:Int)))))
 else
 some (.inr (a1,a2,a3,false))
def zdG (t:Tab) (n:Nat) (a1 a2:ByteArray):Option Int:=
 t.zbg (a1.size:Int) (a2.size:Int)
def zdj (t:Tab) (n:Nat):ByteArray→ByteArray→Option Int
 | a1,a2=>
 (match zby t n n a1 a2 0 with
 | some (.inl a3)=>
 some a3
 | some (.inr (a4,a5,a6,a7))=>
 zdG t n a4 a5
 | none=>none)
def zc2 (t:Tab) (n:Nat) (a1 a2:List zh) (a3 a4:Int):Option (Int⊕((List zh) × (List zh) × Int × Int)):=
 if (decide (0≤(a4:Int)))=true then
 (match a1[(a4:Int).toNat]? with
 | some ⟨a5,a6,a7,a8,a9⟩=>
 (match a2[(a4:Int).toNat]? with
 | some ⟨a10,a11,a12,a13,a14⟩=>
 (match t.zaJ (zh.mk a5 a6 a7 a8 a9) (zh.mk a10 a11 a12 a13 a14) a3 with
 | some a15=>
 if (a15 !=0)=true then
 some (.inl a15)
 else
 some (.inr (a1,a2,a3,(IntKind.wrap .i64 (a4+1))))
 | none=>none)
 | none=>none)
 | none=>none)
 else none
def zb3 (t:Tab) (n:Nat):Nat→(List zh)→(List zh)→Int→Int→Option (Int⊕((List zh) × (List zh) × Int × Int × Bool))
 | 0,_,_,_,_=>none
 | k+1,a1,a2,a3,a4=>
 if (decide (a4 < (a1.length:Int)))=true then
 if (decide (a4 < (a2.length:Int)))=true then
 (match zc2 t n a1 a2 a3 a4 with
 | some (.inl a5)=>
 some (.inl a5)
 | some (.inr (a6,a7,a8,a9))=>
 zb3 t n k a6 a7 a8 a9
 | none=>none)
 else
 some (.inr (a1,a2,a3,a4,(decide (a4 < (a2.length:Int)))))
 else
 some (.inr (a1,a2,a3,a4,false))
def zdL (t:Tab) (n:Nat) (a1 a2:List zh):Option Int:=
 t.zbg (a1.length:Int) (a2.length:Int)
def zdg (t:Tab) (n:Nat):(List zh)→(List zh)→Int→Option Int
 | a1,a2,a3=>
 (match zb3 t n n a1 a2 a3 0 with
 | some (.inl a4)=>
 some a4
 | some (.inr (a5,a6,a7,a8,a9))=>
 zdL t n a5 a6
 | none=>none)
def zb4 (t:Tab) (n:Nat) (a1:List (List GStep)) (a2:List GBy) (a3 a4:Int) (a5:Bool) (a6:Int) (a7:ByteArray) (a8:List GStep) (a9:Bool):Option ((List (List GStep)) × (List GBy) × Int × Int):=
 if a5=true then
 if (a1.length+([a8]:List (List GStep)).length) * 24≤140737488355328 then
 some ((a1++([a8]:List (List GStep))),a2,a3,a4)
 else none
 else
 some (a1,a2,a3,a4)
def zb5 (t:Tab) (n:Nat):Nat→(List (List GStep))→(List GBy)→Int→Int→Option ((List (List GStep)) × (List GBy) × Int × Int × Bool)
 | 0,_,_,_,_=>none
 | k+1,a1,a2,a3,a4=>
 if (decide (a4 < a3))=true then
 if (decide (0≤(a4:Int)))=true then
 (match a2[(a4:Int).toNat]? with
 | some ⟨a5,a6,a7,a8⟩=>
 if (a5==3)=true then
 (match zb4 t n a1 a2 a3 a4 true a5 a6 a7 a8 with
 | some (a9,a10,a11,a12)=>
 zb5 t n k a9 a10 a11 (IntKind.wrap .i64 (a12+1))
 | none=>none)
 else
 (match zb4 t n a1 a2 a3 a4 (decide ((a7.length:Int) > 0)) a5 a6 a7 a8 with
 | some (a13,a14,a15,a16)=>
 zb5 t n k a13 a14 a15 (IntKind.wrap .i64 (a16+1))
 | none=>none)
 | none=>none)
 else none
 else
 some (a1,a2,a3,a4,(decide (a4 < a3)))
def zdh (t:Tab) (n:Nat):GStep→Option (List (List GStep))
 | ⟨a1,a2,a3,⟨a4,a5,a6,a7,a8⟩,⟨a9,a10,a11⟩,a12,a13,a14⟩=>
 (match t.zdV a12 with
 | some a15=>
 (match zb5 t n n a15 a13 (a13.length:Int) 0 with
 | some (a16,a17,a18,a19,a20)=>
 some a16
 | none=>none)
 | none=>none)
def zP (t:Tab) (n:Nat):Nat→(List GStep)→Int→Int→Int→Option (Int⊕((List GStep) × Int × Int × Int × Bool))
 | 0,_,_,_,_=>none
 | k+1,a1,a2,a3,a4=>
 if (decide (a4 < a3))=true then
 if (decide (0≤(a4:Int)))=true then
 (match a1[(a4:Int).toNat]? with
 | some ⟨a5,a6,a7,⟨a8,a9,a10,a11,a12⟩,⟨a13,a14,a15⟩,a16,a17,a18⟩=>
 (match t.zbP (GStep.mk a5 a6 a7 (zh.mk a8 a9 a10 a11 a12) (GPred.mk a13 a14 a15) a16 a17 a18) a2 with
 | some a19=>
 if a19=true then
 some (.inl a4)
 else
 zP t n k a1 a2 a3 (IntKind.wrap .i64 (a4+1))
 | none=>none)
 | none=>none)
 else none
 else
 some (.inr (a1,a2,a3,a4,(decide (a4 < a3))))
def zaf (t:Tab) (n:Nat):(List GStep)→Int→Option Int
 | a1,a2=>
 (match zP t n n a1 a2 (a1.length:Int) 0 with
 | some (.inl a3)=>
 some a3
 | some (.inr (a4,a5,a6,a7,a8))=>
 some (-1)
 | none=>none)
def zcN (t:Tab) (n:Nat):zh→Int→Option zh
 | ⟨a1,a2,a3,a4,a5⟩,a6=>
 if (decide (a6 > 12))=true then
 some (zh.mk a1 a2 a3 ([]:List zh) ([]:List zh))
 else
 (match t.zcb a4 (IntKind.wrap .i64 (a6+1))with
 | some a7=>
 (match t.zcb a5 (IntKind.wrap .i64 (a6+1))with
 | some a8=>
 some (zh.mk a1 a2 a3 a7 a8)
 | none=>none)
 | none=>none)
def zc3 (t:Tab) (n:Nat):Nat→Int→(List zh)→Int→Int→Int→(List zh)→(List GPred)→Int→(List zh)→(List GPred)→Int→(List zh)→(List GPred)→Option (Int × (List zh) × Int × Int × Bool × Int × (List zh) × (List GPred) × Int × (List zh) × (List GPred) × Int × (List zh) × (List GPred))
 | 0,_,_,_,_,_,_,_,_,_,_,_,_,_=>none
 | k+1,a1,a2,a3,a4,a5,a6,a7,a8,a9,a10,a11,a12,a13=>
 if (decide (a4 < a3))=true then
 if (decide (0≤(a4:Int)))=true then
 (match a2[(a4:Int).toNat]? with
 | some ⟨a14,a15,a16,a17,a18⟩=>
 (match t.zcM (zh.mk a14 a15 a16 a17 a18)with
 | some ⟨a19,a20,a21,a22,a23⟩=>
 if (a12.length+([(zh.mk a19 a20 a21 a22 a23)]:List zh).length) * 80≤140737488355328 then
 zc3 t n k a1 a2 a3 (IntKind.wrap .i64 (a4+1)) a5 a6 a7 a8 a9 a10 a11 (a12++([(zh.mk a19 a20 a21 a22 a23)]:List zh)) a13
 else none
 | none=>none)
 | none=>none)
 else none
 else
 some (a1,a2,a3,a4,(decide (a4 < a3)),a5,a6,a7,a8,a9,a10,a11,a12,a13)
def zc4 (t:Tab) (n:Nat):Nat→Int→(List GPred)→Int→Int→Int→(List zh)→(List GPred)→Int→(List zh)→(List GPred)→Option (Int × (List GPred) × Int × Int × Bool × Int × (List zh) × (List GPred) × Int × (List zh) × (List GPred))
 | 0,_,_,_,_,_,_,_,_,_,_=>none
 | k+1,a1,a2,a3,a4,a5,a6,a7,a8,a9,a10=>
 if (decide (a4 < a3))=true then
 if (decide (0≤(a4:Int)))=true then
 (match a2[(a4:Int).toNat]? with
 | some ⟨a11,a12,a13⟩=>
 (match t.zc5 (GPred.mk a11 a12 a13) (IntKind.wrap .i64 (a1+1))with
 | some ⟨a14,a15,a16⟩=>
 if (a10.length+([(GPred.mk a14 a15 a16)]:List GPred).length) * 56≤140737488355328 then
 zc4 t n k a1 a2 a3 (IntKind.wrap .i64 (a4+1)) a5 a6 a7 a8 a9 (a10++([(GPred.mk a14 a15 a16)]:List GPred))
 else none
 | none=>none)
 | none=>none)
 else none
 else
 some (a1,a2,a3,a4,(decide (a4 < a3)),a5,a6,a7,a8,a9,a10)
def zds (t:Tab) (n:Nat) (a1 a2:Int) (a3:List zh) (a4:List GPred) (a5:Int) (a6:List zh) (a7:List GPred) (a8:Int) (a9:List zh) (a10:List GPred):Option (Int × (List zh) × (List GPred)):=
 (match zc4 t n n a1 a4 (a4.length:Int) 0 a5 a6 a7 a8 a9 a10 with
 | some (a11,a12,a13,a14,a15,a16,a17,a18,a19,a20,a21)=>
 some (a19,a20,a21)
 | none=>none)
def zc5 (t:Tab) (n:Nat):GPred→Int→Option GPred
 | ⟨a1,a2,a3⟩,a4=>
 if (decide (a4 > 12))=true then
 some (GPred.mk a1 ([]:List zh) ([]:List GPred))
 else
 (match zc3 t n n a4 a2 (a2.length:Int) 0 a1 a2 a3 0 ([]:List zh) ([]:List GPred) a1 ([]:List zh) ([]:List GPred)with
 | some (a5,a6,a7,a8,a9,a10,a11,a12,a13,a14,a15,a16,a17,a18)=>
 (match zds t n a5 a10 a11 a12 a13 a14 a15 a16 a17 a18 with
 | some (a19,a20,a21)=>
 some (GPred.mk a19 a20 a21)
 | none=>none)
 | none=>none)
def zcu (t:Tab) (n:Nat):Bool→GCode→GCode→Option Bool
 | a1,⟨a2,a3,a4,⟨a5,a6,a7,a8,a9⟩,⟨a10,a11,a12⟩,a13,a14,a15⟩,⟨a16,a17,a18,⟨a19,a20,a21,a22,a23⟩,⟨a24,a25,a26⟩,a27,a28,a29⟩=>
 if a1=true then
 (match t.slices_Equal_int a13 a27 with
 | some a30=>
 if a30=true then
 (match t.zbc a14 a28 with
 | some a31=>
 if a31=true then
 (match t.zbh (zh.mk a5 a6 a7 a8 a9) (zh.mk a19 a20 a21 a22 a23)with
 | some a32=>
 if a32=true then
 t.zaS (GPred.mk a10 a11 a12) (GPred.mk a24 a25 a26)
 else
 some false
 | none=>none)
 else
 some false
 | none=>none)
 else
 some false
 | none=>none)
 else
 some false
def zc0 (t:Tab) (n:Nat):GCode→GCode→Option Bool
 | ⟨a1,a2,a3,⟨a4,a5,a6,a7,a8⟩,⟨a9,a10,a11⟩,a12,a13,a14⟩,⟨a15,a16,a17,⟨a18,a19,a20,a21,a22⟩,⟨a23,a24,a25⟩,a26,a27,a28⟩=>
 if (a1==a15)=true then
 (match t.slices_Equal_string a2 a16 with
 | some a29=>
 if a29=true then
 (match t.slices_Equal_int a3 a17 with
 | some a30=>
 if a30=true then
 (match t.slices_Equal_string a14 a28 with
 | some a31=>
 zcu t n a31 (GCode.mk a1 a2 a3 (zh.mk a4 a5 a6 a7 a8) (GPred.mk a9 a10 a11) a12 a13 a14) (GCode.mk a15 a16 a17 (zh.mk a18 a19 a20 a21 a22) (GPred.mk a23 a24 a25) a26 a27 a28)
 | none=>none)
 else
 zcu t n false (GCode.mk a1 a2 a3 (zh.mk a4 a5 a6 a7 a8) (GPred.mk a9 a10 a11) a12 a13 a14) (GCode.mk a15 a16 a17 (zh.mk a18 a19 a20 a21 a22) (GPred.mk a23 a24 a25) a26 a27 a28)
 | none=>none)
 else
 zcu t n false (GCode.mk a1 a2 a3 (zh.mk a4 a5 a6 a7 a8) (GPred.mk a9 a10 a11) a12 a13 a14) (GCode.mk a15 a16 a17 (zh.mk a18 a19 a20 a21 a22) (GPred.mk a23 a24 a25) a26 a27 a28)
 | none=>none)
 else
 zcu t n false (GCode.mk a1 a2 a3 (zh.mk a4 a5 a6 a7 a8) (GPred.mk a9 a10 a11) a12 a13 a14) (GCode.mk a15 a16 a17 (zh.mk a18 a19 a20 a21 a22) (GPred.mk a23 a24 a25) a26 a27 a28)
def zbP (t:Tab) (n:Nat):GStep→Int→Option Bool
 | ⟨a1,a2,a3,⟨a4,a5,a6,a7,a8⟩,⟨a9,a10,a11⟩,a12,a13,a14⟩,a15=>
 (match t.zdI (GStep.mk a1 a2 a3 (zh.mk a4 a5 a6 a7 a8) (GPred.mk a9 a10 a11) a12 a13 a14) a15 with
 | some a16=>
 some (!a16)
 | none=>none)
def zbK (t:Tab) (n:Nat):Nat→Int→(List zh)→(List zh)→Int→Int→Option (Int × (List zh) × (List zh) × Int × Int × Bool)
 | 0,_,_,_,_,_=>none
 | k+1,a1,a2,a3,a4,a5=>
 if (decide (a5 < a4))=true then
 if (decide (0≤(a5:Int)))=true then
 (match a3[(a5:Int).toNat]? with
 | some ⟨a6,a7,a8,a9,a10⟩=>
 (match t.zcN (zh.mk a6 a7 a8 a9 a10) a1 with
 | some ⟨a11,a12,a13,a14,a15⟩=>
 if (a2.length+([(zh.mk a11 a12 a13 a14 a15)]:List zh).length) * 80≤140737488355328 then
 zbK t n k a1 (a2++([(zh.mk a11 a12 a13 a14 a15)]:List zh)) a3 a4 (IntKind.wrap .i64 (a5+1))
 else none
 | none=>none)
 | none=>none)
 else none
 else
 some (a1,a2,a3,a4,a5,(decide (a5 < a4)))
def zcb (t:Tab) (n:Nat):(List zh)→Int→Option (List zh)
 | a1,a2=>
 (match zbK t n n a2 ([]:List zh) a1 (a1.length:Int) 0 with
 | some (a3,a4,a5,a6,a7,a8)=>
 some a4
 | none=>none)
def zar (t:Tab) (n:Nat):Nat→(List ByteArray)→(List ByteArray)→Int→Int→Option (Bool⊕((List ByteArray) × (List ByteArray) × Int × Int × Bool))
 | 0,_,_,_,_=>none
 | k+1,a1,a2,a3,a4=>
 if (decide (a4 < a3))=true then
 if (decide (0≤(a4:Int)))=true then
 (match a1[(a4:Int).toNat]? with
 | some a5=>
 (match a2[(a4:Int).toNat]? with
 | some a6=>
 if (a5.toList==a6.toList)=true then
 zar t n k a1 a2 a3 (IntKind.wrap .i64 (a4+1))
 else
 some (.inl false)
 | none=>none)
 | none=>none)
 else none
 else
 some (.inr (a1,a2,a3,a4,(decide (a4 < a3))))
def slices_Equal_string (t:Tab) (n:Nat):(List ByteArray)→(List ByteArray)→Option Bool
 | a1,a2=>
 if ((a1.length:Int) !=(a2.length:Int))=true then
 some false
 else
 (match zar t n n a1 a2 (a1.length:Int) 0 with
 | some (.inl a3)=>
 some a3
 | some (.inr (a4,a5,a6,a7,a8))=>
 some true
 | none=>none)
def zaC (t:Tab) (n:Nat):Nat→(List Int)→(List Int)→Int→Int→Option (Bool⊕((List Int) × (List Int) × Int × Int × Bool))
 | 0,_,_,_,_=>none
 | k+1,a1,a2,a3,a4=>
 if (decide (a4 < a3))=true then
 if (decide (0≤(a4:Int)))=true then
 (match a1[(a4:Int).toNat]? with
 | some a5=>
 (match a2[(a4:Int).toNat]? with
 | some a6=>
 if (a5 !=a6)=true then
 some (.inl false)
 else
 zaC t n k a1 a2 a3 (IntKind.wrap .i64 (a4+1))
 | none=>none)
 | none=>none)
 else none
 else
 some (.inr (a1,a2,a3,a4,(decide (a4 < a3))))
def slices_Equal_int (t:Tab) (n:Nat):(List Int)→(List Int)→Option Bool
 | a1,a2=>
 if ((a1.length:Int) !=(a2.length:Int))=true then
 some false
 else
 (match zaC t n n a1 a2 (a1.length:Int) 0 with
 | some (.inl a3)=>
 some a3
 | some (.inr (a4,a5,a6,a7,a8))=>
 some true
 | none=>none)
def zaD (t:Tab) (n:Nat):Nat→(List GKey)→(List GKey)→Int→Int→Option (Bool⊕((List GKey) × (List GKey) × Int × Int × Bool))
 | 0,_,_,_,_=>none
 | k+1,a1,a2,a3,a4=>
 if (decide (a4 < a3))=true then
 if (decide (0≤(a4:Int)))=true then
 (match a1[(a4:Int).toNat]? with
 | some ⟨a5,a6,a7,a8⟩=>
 (match a2[(a4:Int).toNat]? with
 | some ⟨a9,a10,a11,a12⟩=>
 if ((a5==a9)&&((a6.toList==a10.toList)&&((a7==a11)&&((a8==a12)&&true))))=true then
 zaD t n k a1 a2 a3 (IntKind.wrap .i64 (a4+1))
 else
 some (.inl false)
 | none=>none)
 | none=>none)
 else none
 else
 some (.inr (a1,a2,a3,a4,(decide (a4 < a3))))
def zbc (t:Tab) (n:Nat):(List GKey)→(List GKey)→Option Bool
 | a1,a2=>
 if ((a1.length:Int) !=(a2.length:Int))=true then
 some false
 else
 (match zaD t n n a1 a2 (a1.length:Int) 0 with
 | some (.inl a3)=>
 some a3
 | some (.inr (a4,a5,a6,a7,a8))=>
 some true
 | none=>none)
def zbh (t:Tab) (n:Nat):zh→zh→Option Bool
 | ⟨a1,a2,a3,a4,a5⟩,⟨a6,a7,a8,a9,a10⟩=>
 (match t.zdy (zh.mk a1 a2 a3 a4 a5) (zh.mk a6 a7 a8 a9 a10)with
 | some a11=>
 some (a11==0)
 | none=>none)
def zaS (t:Tab) (n:Nat):GPred→GPred→Option Bool
 | ⟨a1,a2,a3⟩,⟨a4,a5,a6⟩=>
 if (a1==a4)=true then
 (match t.zad a2 a5 with
 | some a7=>
 if a7=true then
 t.zZ a3 a6
 else
 some false
 | none=>none)
 else
 some false
def zcc (t:Tab) (n:Nat) (a1:Int) (a2:Bool) (a3:Int) (a4:List ByteArray) (a5:List Int) (a6 a7:Int) (a8:ByteArray) (a9 a10:List zh) (a11:Int) (a12:List zh) (a13:List GPred) (a14:List (List GStep)) (a15:List GBy) (a16:List ByteArray):Option (Bool⊕(Int × Int × (List ByteArray) × (List Int) × Int × Int × ByteArray × (List zh) × (List zh) × Int × (List zh) × (List GPred) × (List (List GStep)) × (List GBy) × (List ByteArray))):=
 if a2=true then
 some (.inl false)
 else
 if (a3==43)=true then
 (match t.zcp a4 with
 | some a17=>
 if a17=true then
 some (.inl false)
 else
 if (decide ((a15.length:Int) > (a4.length:Int)))=true then
 some (.inl false)
 else
 some (.inr (a1,a3,a4,a5,a6,a7,a8,a9,a10,a11,a12,a13,a14,a15,a16))
 | none=>none)
 else
 some (.inr (a1,a3,a4,a5,a6,a7,a8,a9,a10,a11,a12,a13,a14,a15,a16))
def zcd (t:Tab) (n:Nat) (a1:Int) (a2:Bool) (a3:Int) (a4:List ByteArray) (a5:List Int) (a6 a7:Int) (a8:ByteArray) (a9 a10:List zh) (a11:Int) (a12:List zh) (a13:List GPred) (a14:List (List GStep)) (a15:List GBy) (a16:List ByteArray) (a17 a18 a19 a20 a21 a22 a23 a24:Int) (a25 a26:Bool):Option (Bool⊕(Int × Int × (List ByteArray) × (List Int) × Int × Int × ByteArray × (List zh) × (List zh) × Int × (List zh) × (List GPred) × (List (List GStep)) × (List GBy) × (List ByteArray))):=
 if a2=true then
 some (.inl false)
 else
 if a26=true then
 (match t.zcO (GPred.mk a11 a12 a13)with
 | some a27=>
 if (a27 !=0)=true then
 zcc t n a1 true a3 a4 a5 a6 a7 a8 a9 a10 a11 a12 a13 a14 a15 a16
 else
 zcc t n a1 false a3 a4 a5 a6 a7 a8 a9 a10 a11 a12 a13 a14 a15 a16
 | none=>none)
 else
 (match t.zcB (GPred.mk a11 a12 a13)with
 | some a60=>
 zcc t n a1 (!a60) a3 a4 a5 a6 a7 a8 a9 a10 a11 a12 a13 a14 a15 a16
 | none=>none)
def zce (t:Tab) (n:Nat) (a1:Int) (a2:Bool) (a3:Int) (a4:List ByteArray) (a5:List Int) (a6 a7:Int) (a8:ByteArray) (a9 a10:List zh) (a11:Int) (a12:List zh) (a13:List GPred) (a14:List (List GStep)) (a15:List GBy) (a16:List ByteArray) (a17 a18 a19 a20 a21 a22 a23 a24:Int) (a25 a26:Bool):Option (Bool⊕(Int × Int × (List ByteArray) × (List Int) × Int × Int × ByteArray × (List zh) × (List zh) × Int × (List zh) × (List GPred) × (List (List GStep)) × (List GBy) × (List ByteArray))):=
 if a2=true then
 some (.inl false)
 else
 if a25=true then
 (match t.zbR (zh.mk a6 a7 a8 a9 a10)with
 | some a27=>
 if (a27 !=0)=true then
 zcd t n a1 true a3 a4 a5 a6 a7 a8 a9 a10 a11 a12 a13 a14 a15 a16 a17 a18 a19 a20 a21 a22 a23 a24 a25 a26
 else
 zcd t n a1 false a3 a4 a5 a6 a7 a8 a9 a10 a11 a12 a13 a14 a15 a16 a17 a18 a19 a20 a21 a22 a23 a24 a25 a26
 | none=>none)
 else
 (match t.zbh (zh.mk a6 a7 a8 a9 a10) (zh.mk 0 0 ByteArray.empty ([]:List zh) ([]:List zh))with
 | some a60=>
 zcd t n a1 (!a60) a3 a4 a5 a6 a7 a8 a9 a10 a11 a12 a13 a14 a15 a16 a17 a18 a19 a20 a21 a22 a23 a24 a25 a26
 | none=>none)
def zaz (t:Tab) (n:Nat) (a1:Int) (a2:Bool) (a3:Int) (a4:List ByteArray) (a5:List Int) (a6 a7:Int) (a8:ByteArray) (a9 a10:List zh) (a11:Int) (a12:List zh) (a13:List GPred) (a14:List (List GStep)) (a15:List GBy) (a16:List ByteArray) (a17 a18 a19 a20 a21 a22 a23 a24:Int) (a25 a26:Bool):Option (Bool⊕(Int × Int × (List ByteArray) × (List Int) × Int × Int × ByteArray × (List zh) × (List zh) × Int × (List zh) × (List GPred) × (List (List GStep)) × (List GBy) × (List ByteArray))):=
 if a2=true then
 some (.inl false)
 else
 (match t.zA a4 with
 | some a27=>
 if a27=true then
 zce t n a1 true a3 a4 a5 a6 a7 a8 a9 a10 a11 a12 a13 a14 a15 a16 a17 a18 a19 a20 a21 a22 a23 a24 a25 a26
 else
 (match t.zA a16 with
 | some a44=>
 if a44=true then
 zce t n a1 true a3 a4 a5 a6 a7 a8 a9 a10 a11 a12 a13 a14 a15 a16 a17 a18 a19 a20 a21 a22 a23 a24 a25 a26
 else
 (match t.zbB (GStep.mk a3 a4 a5 (zh.mk a6 a7 a8 a9 a10) (GPred.mk a11 a12 a13) a14 a15 a16)with
 | some a61=>
 zce t n a1 (!a61) a3 a4 a5 a6 a7 a8 a9 a10 a11 a12 a13 a14 a15 a16 a17 a18 a19 a20 a21 a22 a23 a24 a25 a26
 | none=>none)
 | none=>none)
 | none=>none)
def zcz (t:Tab) (n:Nat):Nat→Int→(List (List GStep))→Int→Int→Int→(List ByteArray)→(List Int)→Int→Int→ByteArray→(List zh)→(List zh)→Int→(List zh)→(List GPred)→(List (List GStep))→(List GBy)→(List ByteArray)→Option (Bool⊕(Int × (List (List GStep)) × Int × Int × Bool × Int × (List ByteArray) × (List Int) × Int × Int × ByteArray × (List zh) × (List zh) × Int × (List zh) × (List GPred) × (List (List GStep)) × (List GBy) × (List ByteArray)))
 | 0,_,_,_,_,_,_,_,_,_,_,_,_,_,_,_,_,_,_=>none
 | k+1,a1,a2,a3,a4,a5,a6,a7,a8,a9,a10,a11,a12,a13,a14,a15,a16,a17,a18=>
 if (decide (a4 < a3))=true then
 if (decide (0≤(a4:Int)))=true then
 (match a2[(a4:Int).toNat]? with
 | some a19=>
 (match t.za5 a19 (IntKind.wrap .i64 (a1+1))with
 | some a20=>
 if a20=true then
 zcz t n k a1 a2 a3 (IntKind.wrap .i64 (a4+1)) a5 a6 a7 a8 a9 a10 a11 a12 a13 a14 a15 a16 a17 a18
 else
 some (.inl false)
 | none=>none)
 | none=>none)
 else none
 else
 some (.inr (a1,a2,a3,a4,(decide (a4 < a3)),a5,a6,a7,a8,a9,a10,a11,a12,a13,a14,a15,a16,a17,a18))
def zcA (t:Tab) (n:Nat):Nat→Int→(List GBy)→Int→Int→Int→(List ByteArray)→(List Int)→Int→Int→ByteArray→(List zh)→(List zh)→Int→(List zh)→(List GPred)→(List (List GStep))→(List GBy)→(List ByteArray)→Option (Bool⊕(Int × (List GBy) × Int × Int × Bool × Int × (List ByteArray) × (List Int) × Int × Int × ByteArray × (List zh) × (List zh) × Int × (List zh) × (List GPred) × (List (List GStep)) × (List GBy) × (List ByteArray)))
 | 0,_,_,_,_,_,_,_,_,_,_,_,_,_,_,_,_,_,_=>none
 | k+1,a1,a2,a3,a4,a5,a6,a7,a8,a9,a10,a11,a12,a13,a14,a15,a16,a17,a18=>
 if (decide (a4 < a3))=true then
 if (decide (0≤(a4:Int)))=true then
 (match a2[(a4:Int).toNat]? with
 | some ⟨a19,a20,a21,a22⟩=>
 (match t.zdJ (GBy.mk a19 a20 a21 a22) (a5==40) a1 with
 | some a23=>
 if a23=true then
 zcA t n k a1 a2 a3 (IntKind.wrap .i64 (a4+1)) a5 a6 a7 a8 a9 a10 a11 a12 a13 a14 a15 a16 a17 a18
 else
 some (.inl false)
 | none=>none)
 | none=>none)
 else none
 else
 some (.inr (a1,a2,a3,a4,(decide (a4 < a3)),a5,a6,a7,a8,a9,a10,a11,a12,a13,a14,a15,a16,a17,a18))
def zdU (t:Tab) (n:Nat) (a1 a2:Int) (a3:List ByteArray) (a4:List Int) (a5 a6:Int) (a7:ByteArray) (a8 a9:List zh) (a10:Int) (a11:List zh) (a12:List GPred) (a13:List (List GStep)) (a14:List GBy) (a15:List ByteArray):Option Bool:=
 (match zcA t n n a1 a14 (a14.length:Int) 0 a2 a3 a4 a5 a6 a7 a8 a9 a10 a11 a12 a13 a14 a15 with
 | some (.inl a16)=>
 some a16
 | some (.inr (a17,a18,a19,a20,a21,a22,a23,a24,a25,a26,a27,a28,a29,a30,a31,a32,a33,a34,a35))=>
 some true
 | none=>none)
def zbQ (t:Tab) (n:Nat) (a1 a2:Int) (a3:List ByteArray) (a4:List Int) (a5 a6:Int) (a7:ByteArray) (a8 a9:List zh) (a10:Int) (a11:List zh) (a12:List GPred) (a13:List (List GStep)) (a14:List GBy) (a15:List ByteArray):Option Bool:=
 (match zcz t n n a1 a13 (a13.length:Int) 0 a2 a3 a4 a5 a6 a7 a8 a9 a10 a11 a12 a13 a14 a15 with
 | some (.inl a16)=>
 some a16
 | some (.inr (a17,a18,a19,a20,a21,a22,a23,a24,a25,a26,a27,a28,a29,a30,a31,a32,a33,a34,a35))=>
 zdU t n a17 a22 a23 a24 a25 a26 a27 a28 a29 a30 a31 a32 a33 a34 a35
 | none=>none)
def zdI (t:Tab) (n:Nat):GStep→Int→Option Bool
 | ⟨a1,a2,a3,⟨a4,a5,a6,a7,a8⟩,⟨a9,a10,a11⟩,a12,a13,a14⟩,a15=>
 (match t.zdk a1 with
 | some a16=>
 if (a16.toList==(ByteArray.mk #[]).toList)=true then
 some false
 else
 (match t.zcx with
 | some ⟨⟨⟨a17,a18⟩,⟨a19,a20⟩,⟨a21,a22⟩,⟨a23,a24⟩,a25,a26⟩,⟨⟨a27,a28⟩,⟨a29,a30⟩,⟨a31,a32⟩,⟨a33,a34⟩,a35,a36⟩,⟨⟨a37,a38⟩,⟨a39,a40⟩,⟨a41,a42⟩,⟨a43,a44⟩,a45,a46⟩,⟨⟨a47,a48⟩,⟨a49,a50⟩,⟨a51,a52⟩,⟨a53,a54⟩,a55,a56⟩,⟨⟨a57,a58⟩,⟨a59,a60⟩,⟨a61,a62⟩,⟨a63,a64⟩,a65,a66⟩,⟨⟨a67,a68⟩,⟨a69,a70⟩,⟨a71,a72⟩,⟨a73,a74⟩,a75,a76⟩,⟨⟨a77,a78⟩,⟨a79,a80⟩,⟨a81,a82⟩,⟨a83,a84⟩,a85,a86⟩,⟨⟨a87,a88⟩,⟨a89,a90⟩,⟨a91,a92⟩,⟨a93,a94⟩,a95,a96⟩,⟨⟨a97,a98⟩,⟨a99,a100⟩,⟨a101,a102⟩,⟨a103,a104⟩,a105,a106⟩,⟨⟨a107,a108⟩,⟨a109,a110⟩,⟨a111,a112⟩,⟨a113,a114⟩,a115,a116⟩,⟨⟨a117,a118⟩,⟨a119,a120⟩,⟨a121,a122⟩,⟨a123,a124⟩,a125,a126⟩,⟨⟨a127,a128⟩,⟨a129,a130⟩,⟨a131,a132⟩,⟨a133,a134⟩,a135,a136⟩,⟨⟨a137,a138⟩,⟨a139,a140⟩,⟨a141,a142⟩,⟨a143,a144⟩,a145,a146⟩,⟨⟨a147,a148⟩,⟨a149,a150⟩,⟨a151,a152⟩,⟨a153,a154⟩,a155,a156⟩,⟨⟨a157,a158⟩,⟨a159,a160⟩,⟨a161,a162⟩,⟨a163,a164⟩,a165,a166⟩,⟨⟨a167,a168⟩,⟨a169,a170⟩,⟨a171,a172⟩,⟨a173,a174⟩,a175,a176⟩,⟨⟨a177,a178⟩,⟨a179,a180⟩,⟨a181,a182⟩,⟨a183,a184⟩,a185,a186⟩,⟨⟨a187,a188⟩,⟨a189,a190⟩,⟨a191,a192⟩,⟨a193,a194⟩,a195,a196⟩,⟨⟨a197,a198⟩,⟨a199,a200⟩,⟨a201,a202⟩,⟨a203,a204⟩,a205,a206⟩,⟨⟨a207,a208⟩,⟨a209,a210⟩,⟨a211,a212⟩,⟨a213,a214⟩,a215,a216⟩,⟨⟨a217,a218⟩,⟨a219,a220⟩,⟨a221,a222⟩,⟨a223,a224⟩,a225,a226⟩,⟨⟨a227,a228⟩,⟨a229,a230⟩,⟨a231,a232⟩,⟨a233,a234⟩,a235,a236⟩,⟨⟨a237,a238⟩,⟨a239,a240⟩,⟨a241,a242⟩,⟨a243,a244⟩,a245,a246⟩,⟨⟨a247,a248⟩,⟨a249,a250⟩,⟨a251,a252⟩,⟨a253,a254⟩,a255,a256⟩,⟨⟨a257,a258⟩,⟨a259,a260⟩,⟨a261,a262⟩,⟨a263,a264⟩,a265,a266⟩,⟨⟨a267,a268⟩,⟨a269,a270⟩,⟨a271,a272⟩,⟨a273,a274⟩,a275,a276⟩,⟨⟨a277,a278⟩,⟨a279,a280⟩,⟨a281,a282⟩,⟨a283,a284⟩,a285,a286⟩,⟨⟨a287,a288⟩,⟨a289,a290⟩,⟨a291,a292⟩,⟨a293,a294⟩,a295,a296⟩,⟨⟨a297,a298⟩,⟨a299,a300⟩,⟨a301,a302⟩,⟨a303,a304⟩,a305,a306⟩,⟨⟨a307,a308⟩,⟨a309,a310⟩,⟨a311,a312⟩,⟨a313,a314⟩,a315,a316⟩,⟨⟨a317,a318⟩,⟨a319,a320⟩,⟨a321,a322⟩,⟨a323,a324⟩,a325,a326⟩,⟨⟨a327,a328⟩,⟨a329,a330⟩,⟨a331,a332⟩,⟨a333,a334⟩,a335,a336⟩,⟨⟨a337,a338⟩,⟨a339,a340⟩,⟨a341,a342⟩,⟨a343,a344⟩,a345,a346⟩,⟨⟨a347,a348⟩,⟨a349,a350⟩,⟨a351,a352⟩,⟨a353,a354⟩,a355,a356⟩,⟨⟨a357,a358⟩,⟨a359,a360⟩,⟨a361,a362⟩,⟨a363,a364⟩,a365,a366⟩,⟨⟨a367,a368⟩,⟨a369,a370⟩,⟨a371,a372⟩,⟨a373,a374⟩,a375,a376⟩,⟨⟨a377,a378⟩,⟨a379,a380⟩,⟨a381,a382⟩,⟨a383,a384⟩,a385,a386⟩,⟨⟨a387,a388⟩,⟨a389,a390⟩,⟨a391,a392⟩,⟨a393,a394⟩,a395,a396⟩,⟨⟨a397,a398⟩,⟨a399,a400⟩,⟨a401,a402⟩,⟨a403,a404⟩,a405,a406⟩,⟨⟨a407,a408⟩,⟨a409,a410⟩,⟨a411,a412⟩,⟨a413,a414⟩,a415,a416⟩,⟨⟨a417,a418⟩,⟨a419,a420⟩,⟨a421,a422⟩,⟨a423,a424⟩,a425,a426⟩,⟨⟨a427,a428⟩,⟨a429,a430⟩,⟨a431,a432⟩,⟨a433,a434⟩,a435,a436⟩,⟨⟨a437,a438⟩,⟨a439,a440⟩,⟨a441,a442⟩,⟨a443,a444⟩,a445,a446⟩,⟨⟨a447,a448⟩,⟨a449,a450⟩,⟨a451,a452⟩,⟨a453,a454⟩,a455,a456⟩,⟨⟨a457,a458⟩,⟨a459,a460⟩,⟨a461,a462⟩,⟨a463,a464⟩,a465,a466⟩,⟨⟨a467,a468⟩,⟨a469,a470⟩,⟨a471,a472⟩,⟨a473,a474⟩,a475,a476⟩,⟨⟨a477,a478⟩,⟨a479,a480⟩,⟨a481,a482⟩,⟨a483,a484⟩,a485,a486⟩,⟨⟨a487,a488⟩,⟨a489,a490⟩,⟨a491,a492⟩,⟨a493,a494⟩,a495,a496⟩,⟨⟨a497,a498⟩,⟨a499,a500⟩,⟨a501,a502⟩,⟨a503,a504⟩,a505,a506⟩,⟨⟨a507,a508⟩,⟨a509,a510⟩,⟨a511,a512⟩,⟨a513,a514⟩,a515,a516⟩,⟨⟨a517,a518⟩,⟨a519,a520⟩,⟨a521,a522⟩,⟨a523,a524⟩,a525,a526⟩,⟨⟨a527,a528⟩,⟨a529,a530⟩,⟨a531,a532⟩,⟨a533,a534⟩,a535,a536⟩⟩=>
 if (decide (0≤(a1:Int)∧(a1:Int) < ((52:Nat):Int)))=true then
 (match ([(zm.mk (GT105.mk a17 a18) (GT105.mk a19 a20) (GT105.mk a21 a22) (GT105.mk a23 a24) a25 a26),(zm.mk (GT105.mk a27 a28) (GT105.mk a29 a30) (GT105.mk a31 a32) (GT105.mk a33 a34) a35 a36),(zm.mk (GT105.mk a37 a38) (GT105.mk a39 a40) (GT105.mk a41 a42) (GT105.mk a43 a44) a45 a46),(zm.mk (GT105.mk a47 a48) (GT105.mk a49 a50) (GT105.mk a51 a52) (GT105.mk a53 a54) a55 a56),(zm.mk (GT105.mk a57 a58) (GT105.mk a59 a60) (GT105.mk a61 a62) (GT105.mk a63 a64) a65 a66),(zm.mk (GT105.mk a67 a68) (GT105.mk a69 a70) (GT105.mk a71 a72) (GT105.mk a73 a74) a75 a76),(zm.mk (GT105.mk a77 a78) (GT105.mk a79 a80) (GT105.mk a81 a82) (GT105.mk a83 a84) a85 a86),(zm.mk (GT105.mk a87 a88) (GT105.mk a89 a90) (GT105.mk a91 a92) (GT105.mk a93 a94) a95 a96),(zm.mk (GT105.mk a97 a98) (GT105.mk a99 a100) (GT105.mk a101 a102) (GT105.mk a103 a104) a105 a106),(zm.mk (GT105.mk a107 a108) (GT105.mk a109 a110) (GT105.mk a111 a112) (GT105.mk a113 a114) a115 a116),(zm.mk (GT105.mk a117 a118) (GT105.mk a119 a120) (GT105.mk a121 a122) (GT105.mk a123 a124) a125 a126),(zm.mk (GT105.mk a127 a128) (GT105.mk a129 a130) (GT105.mk a131 a132) (GT105.mk a133 a134) a135 a136),(zm.mk (GT105.mk a137 a138) (GT105.mk a139 a140) (GT105.mk a141 a142) (GT105.mk a143 a144) a145 a146),(zm.mk (GT105.mk a147 a148) (GT105.mk a149 a150) (GT105.mk a151 a152) (GT105.mk a153 a154) a155 a156),(zm.mk (GT105.mk a157 a158) (GT105.mk a159 a160) (GT105.mk a161 a162) (GT105.mk a163 a164) a165 a166),(zm.mk (GT105.mk a167 a168) (GT105.mk a169 a170) (GT105.mk a171 a172) (GT105.mk a173 a174) a175 a176),(zm.mk (GT105.mk a177 a178) (GT105.mk a179 a180) (GT105.mk a181 a182) (GT105.mk a183 a184) a185 a186),(zm.mk (GT105.mk a187 a188) (GT105.mk a189 a190) (GT105.mk a191 a192) (GT105.mk a193 a194) a195 a196),(zm.mk (GT105.mk a197 a198) (GT105.mk a199 a200) (GT105.mk a201 a202) (GT105.mk a203 a204) a205 a206),(zm.mk (GT105.mk a207 a208) (GT105.mk a209 a210) (GT105.mk a211 a212) (GT105.mk a213 a214) a215 a216),(zm.mk (GT105.mk a217 a218) (GT105.mk a219 a220) (GT105.mk a221 a222) (GT105.mk a223 a224) a225 a226),(zm.mk (GT105.mk a227 a228) (GT105.mk a229 a230) (GT105.mk a231 a232) (GT105.mk a233 a234) a235 a236),(zm.mk (GT105.mk a237 a238) (GT105.mk a239 a240) (GT105.mk a241 a242) (GT105.mk a243 a244) a245 a246),(zm.mk (GT105.mk a247 a248) (GT105.mk a249 a250) (GT105.mk a251 a252) (GT105.mk a253 a254) a255 a256),(zm.mk (GT105.mk a257 a258) (GT105.mk a259 a260) (GT105.mk a261 a262) (GT105.mk a263 a264) a265 a266),(zm.mk (GT105.mk a267 a268) (GT105.mk a269 a270) (GT105.mk a271 a272) (GT105.mk a273 a274) a275 a276),(zm.mk (GT105.mk a277 a278) (GT105.mk a279 a280) (GT105.mk a281 a282) (GT105.mk a283 a284) a285 a286),(zm.mk (GT105.mk a287 a288) (GT105.mk a289 a290) (GT105.mk a291 a292) (GT105.mk a293 a294) a295 a296),(zm.mk (GT105.mk a297 a298) (GT105.mk a299 a300) (GT105.mk a301 a302) (GT105.mk a303 a304) a305 a306),(zm.mk (GT105.mk a307 a308) (GT105.mk a309 a310) (GT105.mk a311 a312) (GT105.mk a313 a314) a315 a316),(zm.mk (GT105.mk a317 a318) (GT105.mk a319 a320) (GT105.mk a321 a322) (GT105.mk a323 a324) a325 a326),(zm.mk (GT105.mk a327 a328) (GT105.mk a329 a330) (GT105.mk a331 a332) (GT105.mk a333 a334) a335 a336),(zm.mk (GT105.mk a337 a338) (GT105.mk a339 a340) (GT105.mk a341 a342) (GT105.mk a343 a344) a345 a346),(zm.mk (GT105.mk a347 a348) (GT105.mk a349 a350) (GT105.mk a351 a352) (GT105.mk a353 a354) a355 a356),(zm.mk (GT105.mk a357 a358) (GT105.mk a359 a360) (GT105.mk a361 a362) (GT105.mk a363 a364) a365 a366),(zm.mk (GT105.mk a367 a368) (GT105.mk a369 a370) (GT105.mk a371 a372) (GT105.mk a373 a374) a375 a376),(zm.mk (GT105.mk a377 a378) (GT105.mk a379 a380) (GT105.mk a381 a382) (GT105.mk a383 a384) a385 a386),(zm.mk (GT105.mk a387 a388) (GT105.mk a389 a390) (GT105.mk a391 a392) (GT105.mk a393 a394) a395 a396),(zm.mk (GT105.mk a397 a398) (GT105.mk a399 a400) (GT105.mk a401 a402) (GT105.mk a403 a404) a405 a406),(zm.mk (GT105.mk a407 a408) (GT105.mk a409 a410) (GT105.mk a411 a412) (GT105.mk a413 a414) a415 a416),(zm.mk (GT105.mk a417 a418) (GT105.mk a419 a420) (GT105.mk a421 a422) (GT105.mk a423 a424) a425 a426),(zm.mk (GT105.mk a427 a428) (GT105.mk a429 a430) (GT105.mk a431 a432) (GT105.mk a433 a434) a435 a436),(zm.mk (GT105.mk a437 a438) (GT105.mk a439 a440) (GT105.mk a441 a442) (GT105.mk a443 a444) a445 a446),(zm.mk (GT105.mk a447 a448) (GT105.mk a449 a450) (GT105.mk a451 a452) (GT105.mk a453 a454) a455 a456),(zm.mk (GT105.mk a457 a458) (GT105.mk a459 a460) (GT105.mk a461 a462) (GT105.mk a463 a464) a465 a466),(zm.mk (GT105.mk a467 a468) (GT105.mk a469 a470) (GT105.mk a471 a472) (GT105.mk a473 a474) a475 a476),(zm.mk (GT105.mk a477 a478) (GT105.mk a479 a480) (GT105.mk a481 a482) (GT105.mk a483 a484) a485 a486),(zm.mk (GT105.mk a487 a488) (GT105.mk a489 a490) (GT105.mk a491 a492) (GT105.mk a493 a494) a495 a496),(zm.mk (GT105.mk a497 a498) (GT105.mk a499 a500) (GT105.mk a501 a502) (GT105.mk a503 a504) a505 a506),(zm.mk (GT105.mk a507 a508) (GT105.mk a509 a510) (GT105.mk a511 a512) (GT105.mk a513 a514) a515 a516),(zm.mk (GT105.mk a517 a518) (GT105.mk a519 a520) (GT105.mk a521 a522) (GT105.mk a523 a524) a525 a526),(zm.mk (GT105.mk a527 a528) (GT105.mk a529 a530) (GT105.mk a531 a532) (GT105.mk a533 a534) a535 a536)]:List zm)[(a1:Int).toNat]? with
 | some ⟨⟨a537,a538⟩,⟨a539,a540⟩,⟨a541,a542⟩,⟨a543,a544⟩,a545,a546⟩=>
 (match t.zdv (a2.length:Int) (GT105.mk a537 a538)with
 | some a547=>
 if a547=true then
 (match t.zdv (a3.length:Int) (GT105.mk a539 a540)with
 | some a548=>
 if a548=true then
 (match t.zdv (a12.length:Int) (GT105.mk a541 a542)with
 | some a549=>
 if a549=true then
 (match t.zdv (a13.length:Int) (GT105.mk a543 a544)with
 | some a550=>
 if a550=true then
 (match zaz t n a15 (decide ((a14.length:Int) > 50)) a1 a2 a3 a4 a5 a6 a7 a8 a9 a10 a11 a12 a13 a14 a537 a538 a539 a540 a541 a542 a543 a544 a545 a546 with
 | some (.inl a551)=>
 some a551
 | some (.inr (a552,a553,a554,a555,a556,a557,a558,a559,a560,a561,a562,a563,a564,a565,a566))=>
 zbQ t n a552 a553 a554 a555 a556 a557 a558 a559 a560 a561 a562 a563 a564 a565 a566
 | none=>none)
 else
 (match zaz t n a15 true a1 a2 a3 a4 a5 a6 a7 a8 a9 a10 a11 a12 a13 a14 a537 a538 a539 a540 a541 a542 a543 a544 a545 a546 with
 | some (.inl a568)=>
 some a568
 | some (.inr (a569,a570,a571,a572,a573,a574,a575,a576,a577,a578,a579,a580,a581,a582,a583))=>
 zbQ t n a569 a570 a571 a572 a573 a574 a575 a576 a577 a578 a579 a580 a581 a582 a583
 | none=>none)
 | none=>none)
 else
 (match zaz t n a15 true a1 a2 a3 a4 a5 a6 a7 a8 a9 a10 a11 a12 a13 a14 a537 a538 a539 a540 a541 a542 a543 a544 a545 a546 with
 | some (.inl a585)=>
 some a585
 | some (.inr (a586,a587,a588,a589,a590,a591,a592,a593,a594,a595,a596,a597,a598,a599,a600))=>
 zbQ t n a586 a587 a588 a589 a590 a591 a592 a593 a594 a595 a596 a597 a598 a599 a600
 | none=>none)
 | none=>none)
 else
 (match zaz t n a15 true a1 a2 a3 a4 a5 a6 a7 a8 a9 a10 a11 a12 a13 a14 a537 a538 a539 a540 a541 a542 a543 a544 a545 a546 with
 | some (.inl a602)=>
 some a602
 | some (.inr (a603,a604,a605,a606,a607,a608,a609,a610,a611,a612,a613,a614,a615,a616,a617))=>
 zbQ t n a603 a604 a605 a606 a607 a608 a609 a610 a611 a612 a613 a614 a615 a616 a617
 | none=>none)
 | none=>none)
 else
 (match zaz t n a15 true a1 a2 a3 a4 a5 a6 a7 a8 a9 a10 a11 a12 a13 a14 a537 a538 a539 a540 a541 a542 a543 a544 a545 a546 with
 | some (.inl a619)=>
 some a619
 | some (.inr (a620,a621,a622,a623,a624,a625,a626,a627,a628,a629,a630,a631,a632,a633,a634))=>
 zbQ t n a620 a621 a622 a623 a624 a625 a626 a627 a628 a629 a630 a631 a632 a633 a634
 | none=>none)
 | none=>none)
 | none=>none)
 else none
 | none=>none)
 | none=>none)
def zdy (t:Tab) (n:Nat):zh→zh→Option Int
 | ⟨a1,a2,a3,a4,a5⟩,⟨a6,a7,a8,a9,a10⟩=>
 t.zbp (zh.mk a1 a2 a3 a4 a5) (zh.mk a6 a7 a8 a9 a10) 1
def zY (t:Tab) (n:Nat):Nat→(List zh)→(List zh)→Int→Int→Option (Bool⊕((List zh) × (List zh) × Int × Int × Bool))
 | 0,_,_,_,_=>none
 | k+1,a1,a2,a3,a4=>
 if (decide (a4 < a3))=true then
 if (decide (0≤(a4:Int)))=true then
 (match a2[(a4:Int).toNat]? with
 | some ⟨a5,a6,a7,a8,a9⟩=>
 (match a1[(a4:Int).toNat]? with
 | some ⟨a10,a11,a12,a13,a14⟩=>
 (match t.zbh (zh.mk a5 a6 a7 a8 a9) (zh.mk a10 a11 a12 a13 a14)with
 | some a15=>
 if a15=true then
 zY t n k a1 a2 a3 (IntKind.wrap .i64 (a4+1))
 else
 some (.inl false)
 | none=>none)
 | none=>none)
 | none=>none)
 else none
 else
 some (.inr (a1,a2,a3,a4,(decide (a4 < a3))))
def zad (t:Tab) (n:Nat):(List zh)→(List zh)→Option Bool
 | a1,a2=>
 if ((a1.length:Int) !=(a2.length:Int))=true then
 some false
 else
 (match zY t n n a2 a1 (a1.length:Int) 0 with
 | some (.inl a3)=>
 some a3
 | some (.inr (a4,a5,a6,a7,a8))=>
 some true
 | none=>none)
def zH (t:Tab) (n:Nat):Nat→(List GPred)→(List GPred)→Int→Int→Option (Bool⊕((List GPred) × (List GPred) × Int × Int × Bool))
 | 0,_,_,_,_=>none
 | k+1,a1,a2,a3,a4=>
 if (decide (a4 < a3))=true then
 if (decide (0≤(a4:Int)))=true then
 (match a2[(a4:Int).toNat]? with
 | some ⟨a5,a6,a7⟩=>
 (match a1[(a4:Int).toNat]? with
 | some ⟨a8,a9,a10⟩=>
 (match t.zaS (GPred.mk a5 a6 a7) (GPred.mk a8 a9 a10)with
 | some a11=>
 if a11=true then
 zH t n k a1 a2 a3 (IntKind.wrap .i64 (a4+1))
 else
 some (.inl false)
 | none=>none)
 | none=>none)
 | none=>none)
 else none
 else
 some (.inr (a1,a2,a3,a4,(decide (a4 < a3))))
def zZ (t:Tab) (n:Nat):(List GPred)→(List GPred)→Option Bool
 | a1,a2=>
 if ((a1.length:Int) !=(a2.length:Int))=true then
 some false
 else
 (match zH t n n a2 a1 (a1.length:Int) 0 with
 | some (.inl a3)=>
 some a3
 | some (.inr (a4,a5,a6,a7,a8))=>
 some true
 | none=>none)
def zdk (t:Tab) (n:Nat):Int→Option ByteArray
 | a1=>
 if (decide (a1 < 1))=true then
 some (ByteArray.mk #[])
 else
 if (decide (a1 > 51))=true then
 some (ByteArray.mk #[])
 else
 if (decide (0≤(a1:Int)∧(a1:Int) < ((52:Nat):Int)))=true then
 (match gl0[(a1:Int).toNat]? with
 | some a2=>
 some a2
 | none=>none)
 else none
def zcx (t:Tab) (n:Nat):Option GT108:=
 some (GT108.mk (zm.mk (GT105.mk 0 0) (GT105.mk 0 0) (GT105.mk 0 0) (GT105.mk 0 0) false false) (zm.mk (GT105.mk 0 0) (GT105.mk 0 50) (GT105.mk 0 0) (GT105.mk 0 0) false false) (zm.mk (GT105.mk 0 0) (GT105.mk 0 50) (GT105.mk 0 0) (GT105.mk 0 0) false false) (zm.mk (GT105.mk 0 50) (GT105.mk 0 0) (GT105.mk 0 0) (GT105.mk 0 0) false false) (zm.mk (GT105.mk 0 50) (GT105.mk 0 0) (GT105.mk 0 0) (GT105.mk 0 0) false false) (zm.mk (GT105.mk 0 50) (GT105.mk 0 0) (GT105.mk 0 0) (GT105.mk 0 0) false false) (zm.mk (GT105.mk 0 50) (GT105.mk 0 0) (GT105.mk 0 0) (GT105.mk 0 0) false false) (zm.mk (GT105.mk 0 50) (GT105.mk 0 0) (GT105.mk 0 0) (GT105.mk 0 0) false false) (zm.mk (GT105.mk 0 50) (GT105.mk 0 0) (GT105.mk 0 0) (GT105.mk 0 0) false false) (zm.mk (GT105.mk 0 0) (GT105.mk 0 0) (GT105.mk 0 0) (GT105.mk 0 0) false false) (zm.mk (GT105.mk 0 0) (GT105.mk 0 0) (GT105.mk 0 0) (GT105.mk 0 0) false false) (zm.mk (GT105.mk 0 0) (GT105.mk 0 0) (GT105.mk 0 0) (GT105.mk 0 0) false false) (zm.mk (GT105.mk 0 0) (GT105.mk 0 0) (GT105.mk 0 0) (GT105.mk 0 0) false false) (zm.mk (GT105.mk 0 0) (GT105.mk 0 0) (GT105.mk 0 0) (GT105.mk 0 0) false false) (zm.mk (GT105.mk 0 50) (GT105.mk 0 0) (GT105.mk 0 0) (GT105.mk 0 0) false false) (zm.mk (GT105.mk 0 0) (GT105.mk 0 0) (GT105.mk 0 0) (GT105.mk 0 0) true false) (zm.mk (GT105.mk 0 0) (GT105.mk 0 0) (GT105.mk 0 0) (GT105.mk 0 0) false false) (zm.mk (GT105.mk 1 50) (GT105.mk 0 0) (GT105.mk 0 0) (GT105.mk 0 0) false false) (zm.mk (GT105.mk 1 1) (GT105.mk 0 0) (GT105.mk 0 0) (GT105.mk 0 0) false true) (zm.mk (GT105.mk 1 1) (GT105.mk 0 0) (GT105.mk 0 0) (GT105.mk 0 0) false false) (zm.mk (GT105.mk 1 1) (GT105.mk 0 0) (GT105.mk 0 0) (GT105.mk 0 0) false false) (zm.mk (GT105.mk 0 0) (GT105.mk 1 50) (GT105.mk 0 0) (GT105.mk 0 0) false false) (zm.mk (GT105.mk 0 0) (GT105.mk 0 0) (GT105.mk 0 0) (GT105.mk 0 0) false true) (zm.mk (GT105.mk 0 0) (GT105.mk 0 0) (GT105.mk 0 0) (GT105.mk 0 0) false false) (zm.mk (GT105.mk 0 0) (GT105.mk 2 2) (GT105.mk 0 0) (GT105.mk 0 0) false false) (zm.mk (GT105.mk 0 0) (GT105.mk 1 1) (GT105.mk 0 0) (GT105.mk 0 0) false false) (zm.mk (GT105.mk 0 0) (GT105.mk 0 0) (GT105.mk 0 0) (GT105.mk 0 0) false false) (zm.mk (GT105.mk 0 0) (GT105.mk 0 0) (GT105.mk 0 0) (GT105.mk 0 0) false false) (zm.mk (GT105.mk 0 0) (GT105.mk 0 0) (GT105.mk 1 1) (GT105.mk 0 0) false false) (zm.mk (GT105.mk 0 0) (GT105.mk 0 0) (GT105.mk 1 1) (GT105.mk 0 0) false false) (zm.mk (GT105.mk 0 0) (GT105.mk 0 0) (GT105.mk 1 50) (GT105.mk 0 0) false false) (zm.mk (GT105.mk 0 0) (GT105.mk 0 0) (GT105.mk 1 50) (GT105.mk 0 0) false false) (zm.mk (GT105.mk 0 0) (GT105.mk 0 0) (GT105.mk 0 0) (GT105.mk 0 0) false false) (zm.mk (GT105.mk 0 0) (GT105.mk 0 0) (GT105.mk 0 0) (GT105.mk 0 0) false false) (zm.mk (GT105.mk 0 0) (GT105.mk 0 0) (GT105.mk 0 0) (GT105.mk 0 0) false false) (zm.mk (GT105.mk 0 0) (GT105.mk 0 0) (GT105.mk 0 0) (GT105.mk 0 0) false false) (zm.mk (GT105.mk 0 0) (GT105.mk 0 0) (GT105.mk 0 0) (GT105.mk 0 0) false false) (zm.mk (GT105.mk 0 0) (GT105.mk 0 0) (GT105.mk 0 0) (GT105.mk 0 0) false false) (zm.mk (GT105.mk 0 0) (GT105.mk 0 0) (GT105.mk 0 0) (GT105.mk 0 0) false false) (zm.mk (GT105.mk 1 50) (GT105.mk 0 0) (GT105.mk 0 0) (GT105.mk 0 0) false false) (zm.mk (GT105.mk 0 0) (GT105.mk 0 0) (GT105.mk 0 0) (GT105.mk 0 50) false false) (zm.mk (GT105.mk 0 0) (GT105.mk 0 0) (GT105.mk 0 0) (GT105.mk 0 2) false false) (zm.mk (GT105.mk 0 0) (GT105.mk 0 0) (GT105.mk 0 0) (GT105.mk 0 1) false false) (zm.mk (GT105.mk 1 50) (GT105.mk 0 0) (GT105.mk 0 0) (GT105.mk 0 50) false false) (zm.mk (GT105.mk 0 0) (GT105.mk 0 0) (GT105.mk 1 50) (GT105.mk 0 0) false false) (zm.mk (GT105.mk 0 0) (GT105.mk 0 0) (GT105.mk 1 50) (GT105.mk 0 0) false false) (zm.mk (GT105.mk 0 0) (GT105.mk 0 0) (GT105.mk 3 3) (GT105.mk 0 0) false false) (zm.mk (GT105.mk 0 0) (GT105.mk 0 0) (GT105.mk 1 1) (GT105.mk 0 0) false false) (zm.mk (GT105.mk 0 0) (GT105.mk 2 2) (GT105.mk 1 2) (GT105.mk 0 0) false false) (zm.mk (GT105.mk 1 1) (GT105.mk 0 0) (GT105.mk 0 0) (GT105.mk 0 0) false false) (zm.mk (GT105.mk 1 1) (GT105.mk 0 0) (GT105.mk 0 0) (GT105.mk 0 0) false false) (zm.mk (GT105.mk 0 0) (GT105.mk 0 0) (GT105.mk 0 0) (GT105.mk 0 0) false false))
def zdv (t:Tab) (n:Nat):Int→GT105→Option Bool
 | a1,⟨a2,a3⟩=>
 if (decide (a1≥a2))=true then
 some (decide (a1≤a3))
 else
 some false
def zA (t:Tab) (n:Nat):(List ByteArray)→Option Bool
 | a1=>
 (match t.zal a1 with
 | some a2=>
 some (decide (a2≥0))
 | none=>none)
def zbR (t:Tab) (n:Nat):zh→Option Int
 | ⟨a1,a2,a3,a4,a5⟩=>
 (match t.zbq (zh.mk a1 a2 a3 a4 a5) 1 with
 | some a6=>
 if a6=true then
 some 0
 else
 some 2
 | none=>none)
def zcO (t:Tab) (n:Nat):GPred→Option Int
 | ⟨a1,a2,a3⟩=>
 (match t.zcq (GPred.mk a1 a2 a3) 1 with
 | some a4=>
 if a4=true then
 some 0
 else
 some 2
 | none=>none)
def zb6 (t:Tab) (n:Nat):Nat→(List ByteArray)→(List ByteArray)→Int→Int→Option (Bool⊕((List ByteArray) × (List ByteArray) × Int × Int × Bool))
 | 0,_,_,_,_=>none
 | k+1,a1,a2,a3,a4=>
 if (decide (a4 < a3))=true then
 if (decide (0≤(a4:Int)))=true then
 (match a2[(a4:Int).toNat]? with
 | some a5=>
 if (decide (0≤(0:Int)∧(0:Int)≤(a4:Int)∧(a4:Int)≤(a1.length:Int)))=true then
 (match t.slices_Contains_string ((a1.take (a4:Int).toNat).drop (0:Int).toNat) a5 with
 | some a6=>
 if a6=true then
 some (.inl true)
 else
 zb6 t n k a1 a2 a3 (IntKind.wrap .i64 (a4+1))
 | none=>none)
 else none
 | none=>none)
 else none
 else
 some (.inr (a1,a2,a3,a4,(decide (a4 < a3))))
def zcp (t:Tab) (n:Nat):(List ByteArray)→Option Bool
 | a1=>
 (match zb6 t n n a1 a1 (a1.length:Int) 0 with
 | some (.inl a2)=>
 some a2
 | some (.inr (a3,a4,a5,a6,a7))=>
 some false
 | none=>none)
def zcB (t:Tab) (n:Nat):GPred→Option Bool
 | ⟨a1,a2,a3⟩=>
 if (a1==0)=true then
 some ((IntKind.wrap .i64 ((a2.length:Int)+(a3.length:Int)))==0)
 else
 some false
def zao (t:Tab) (n:Nat) (a1:Bool) (a2:Int) (a3:List ByteArray) (a4:List Int) (a5 a6:Int) (a7:ByteArray) (a8 a9:List zh) (a10:Int) (a11:List zh) (a12:List GPred) (a13:List (List GStep)) (a14:List GBy) (a15:List ByteArray):Option (Bool⊕Unit):=
 if a1=true then
 if (a2==21)=true then
 some (.inl true)
 else
 (match t.zI a4 with
 | some a16=>
 some (.inl (!a16))
 | none=>none)
 else
 some (.inr ())
def zbB (t:Tab) (n:Nat):GStep→Option Bool
 | ⟨a1,a2,a3,⟨a4,a5,a6,a7,a8⟩,⟨a9,a10,a11⟩,a12,a13,a14⟩=>
 if (a1==24)=true then
 if (decide (0≤(0:Int)))=true then
 (match a3[(0:Int).toNat]? with
 | some a15=>
 if (decide (a15≥0))=true then
 if (decide (0≤(1:Int)))=true then
 (match a3[(1:Int).toNat]? with
 | some a16=>
 if (a16==(-1))=true then
 some true
 else
 some (decide (a16≥a15))
 | none=>none)
 else none
 else
 some false
 | none=>none)
 else none
 else
 if (a1==48)=true then
 if (decide (0≤(0:Int)))=true then
 (match a3[(0:Int).toNat]? with
 | some a17=>
 if (decide (a17≥(-1)))=true then
 if (decide (0≤(1:Int)))=true then
 (match a3[(1:Int).toNat]? with
 | some a18=>
 if (decide (a18≥0))=true then
 if (decide (a18≤1))=true then
 if ((a12.length:Int)==2)=true then
 some true
 else
 some (decide (a17≥0))
 else
 some false
 else
 some false
 | none=>none)
 else none
 else
 some false
 | none=>none)
 else none
 else
 if (a1==1)=true then
 (match zao t n (a1==1) a1 a2 a3 a4 a5 a6 a7 a8 a9 a10 a11 a12 a13 a14 with
 | some (.inl a19)=>
 some a19
 | some (.inr ())=>
 some true
 | none=>none)
 else
 if (a1==2)=true then
 (match zao t n (a1==2) a1 a2 a3 a4 a5 a6 a7 a8 a9 a10 a11 a12 a13 a14 with
 | some (.inl a20)=>
 some a20
 | some (.inr ())=>
 some true
 | none=>none)
 else
 if (a1==21)=true then
 (match zao t n (a1==21) a1 a2 a3 a4 a5 a6 a7 a8 a9 a10 a11 a12 a13 a14 with
 | some (.inl a21)=>
 some a21
 | some (.inr ())=>
 some true
 | none=>none)
 else
 (match zao t n (a1==25) a1 a2 a3 a4 a5 a6 a7 a8 a9 a10 a11 a12 a13 a14 with
 | some (.inl a22)=>
 some a22
 | some (.inr ())=>
 some true
 | none=>none)
def zbz (t:Tab) (n:Nat) (a1 a2:Int) (a3:ByteArray) (a4:List GStep) (a5:Bool):Option Bool:=
 if (a2==1)=true then
 some true
 else
 if (a2==2)=true then
 t.zcP a3
 else
 if (a2==3)=true then
 t.za5 a4 (IntKind.wrap .i64 (a1+1))
 else
 some false
def zdJ (t:Tab) (n:Nat):GBy→Bool→Int→Option Bool
 | ⟨a1,a2,a3,a4⟩,a5,a6=>
 if a4=true then
 if a5=true then
 if (a1 !=2)=true then
 if (a2.toList==(ByteArray.mk #[]).toList)=true then
 if (a1 !=3)=true then
 if (decide ((a3.length:Int) > 0))=true then
 some false
 else
 zbz t n a6 a1 a2 a3 a4
 else
 zbz t n a6 a1 a2 a3 a4
 else
 some false
 else
 if (a1 !=3)=true then
 if (decide ((a3.length:Int) > 0))=true then
 some false
 else
 zbz t n a6 a1 a2 a3 a4
 else
 zbz t n a6 a1 a2 a3 a4
 else
 some false
 else
 if (a1 !=2)=true then
 if (a2.toList==(ByteArray.mk #[]).toList)=true then
 if (a1 !=3)=true then
 if (decide ((a3.length:Int) > 0))=true then
 some false
 else
 zbz t n a6 a1 a2 a3 a4
 else
 zbz t n a6 a1 a2 a3 a4
 else
 some false
 else
 if (a1 !=3)=true then
 if (decide ((a3.length:Int) > 0))=true then
 some false
 else
 zbz t n a6 a1 a2 a3 a4
 else
 zbz t n a6 a1 a2 a3 a4
def zdl (t:Tab) (n:Nat) (a1 a2:Int) (a3:ByteArray) (a4 a5:List zh) (a6 a7:Int) (a8:ByteArray) (a9 a10:List zh) (a11:Int):Option Int:=
 (match t.zJ a4 a9 a11 with
 | some a12=>
 (match t.zJ a5 a10 a11 with
 | some a13=>
 t.zdi ([a12,a13]:List Int)
 | none=>none)
 | none=>none)
def zbp (t:Tab) (n:Nat):zh→zh→Int→Option Int
 | ⟨a1,a2,a3,a4,a5⟩,⟨a6,a7,a8,a9,a10⟩,a11=>
 (match t.cmp_Compare_int a1 a6 with
 | some a12=>
 (match t.cmp_Compare_int a2 a7 with
 | some a13=>
 (match t.strings_Compare a3 a8 with
 | some a14=>
 (match t.zdi ([a12,a13,a14]:List Int)with
 | some a15=>
 if (a15 !=0)=true then
 some a15
 else
 if (decide (a11 > 12))=true then
 some a15
 else
 zdl t n a1 a2 a3 a4 a5 a6 a7 a8 a9 a10 a11
 | none=>none)
 | none=>none)
 | none=>none)
 | none=>none)
def zT (t:Tab) (n:Nat):Nat→(List ByteArray)→Int→Int→Option (Int⊕((List ByteArray) × Int × Int × Bool))
 | 0,_,_,_=>none
 | k+1,a1,a2,a3=>
 if (decide (a3 < a2))=true then
 if (decide (0≤(a3:Int)))=true then
 (match a1[(a3:Int).toNat]? with
 | some a4=>
 (match t.zcK a4 with
 | some a5=>
 if a5=true then
 some (.inl a3)
 else
 zT t n k a1 a2 (IntKind.wrap .i64 (a3+1))
 | none=>none)
 | none=>none)
 else none
 else
 some (.inr (a1,a2,a3,(decide (a3 < a2))))
def zal (t:Tab) (n:Nat):(List ByteArray)→Option Int
 | a1=>
 (match zT t n n a1 (a1.length:Int) 0 with
 | some (.inl a2)=>
 some a2
 | some (.inr (a3,a4,a5,a6))=>
 some (-1)
 | none=>none)
def zaE (t:Tab) (n:Nat):Nat→Int→(List zh)→Int→Int→Int→Int→ByteArray→(List zh)→(List zh)→Option (Bool⊕(Int × (List zh) × Int × Int × Bool × Int × Int × ByteArray × (List zh) × (List zh)))
 | 0,_,_,_,_,_,_,_,_,_=>none
 | k+1,a1,a2,a3,a4,a5,a6,a7,a8,a9=>
 if (decide (a4 < a3))=true then
 if (decide (0≤(a4:Int)))=true then
 (match a2[(a4:Int).toNat]? with
 | some ⟨a10,a11,a12,a13,a14⟩=>
 (match t.zbq (zh.mk a10 a11 a12 a13 a14) (IntKind.wrap .i64 (a1+1))with
 | some a15=>
 if a15=true then
 if (a5==7)=true then
 if (decide (a4 > 0))=true then
 if (decide (a4 < (a8.length:Int)))=true then
 if (decide (0≤((IntKind.wrap .i64 (a4-1)):Int)))=true then
 (match a8[((IntKind.wrap .i64 (a4-1)):Int).toNat]? with
 | some ⟨a16,a17,a18,a19,a20⟩=>
 (match t.zdy (zh.mk a16 a17 a18 a19 a20) (zh.mk a10 a11 a12 a13 a14)with
 | some a21=>
 if (decide (a21≥0))=true then
 some (.inl false)
 else
 zaE t n k a1 a2 a3 (IntKind.wrap .i64 (a4+1)) a5 a6 a7 a8 a9
 | none=>none)
 | none=>none)
 else none
 else
 zaE t n k a1 a2 a3 (IntKind.wrap .i64 (a4+1)) a5 a6 a7 a8 a9
 else
 zaE t n k a1 a2 a3 (IntKind.wrap .i64 (a4+1)) a5 a6 a7 a8 a9
 else
 zaE t n k a1 a2 a3 (IntKind.wrap .i64 (a4+1)) a5 a6 a7 a8 a9
 else
 some (.inl false)
 | none=>none)
 | none=>none)
 else none
 else
 some (.inr (a1,a2,a3,a4,(decide (a4 < a3)),a5,a6,a7,a8,a9))
def zba (t:Tab) (n:Nat) (a1 a2 a3:Int) (a4:ByteArray) (a5 a6:List zh):Option Bool:=
 (match t.zav ([a5,a6]:List (List zh))with
 | some a7=>
 (match zaE t n n a1 a7 (a7.length:Int) 0 a2 a3 a4 a5 a6 with
 | some (.inl a8)=>
 some a8
 | some (.inr (a9,a10,a11,a12,a13,a14,a15,a16,a17,a18))=>
 some true
 | none=>none)
 | none=>none)
def zbS (t:Tab) (n:Nat) (a1 a2 a3:Int) (a4:ByteArray) (a5 a6:List zh):Option Bool:=
 if (decide ((a5.length:Int) > 1000))=true then
 some false
 else
 if (a2==7)=true then
 if ((a6.length:Int) !=(a5.length:Int))=true then
 some false
 else
 if (a2 !=7)=true then
 if (decide ((a6.length:Int) > 0))=true then
 some false
 else
 zba t n a1 a2 a3 a4 a5 a6
 else
 zba t n a1 a2 a3 a4 a5 a6
 else
 if (a2 !=7)=true then
 if (decide ((a6.length:Int) > 0))=true then
 some false
 else
 zba t n a1 a2 a3 a4 a5 a6
 else
 zba t n a1 a2 a3 a4 a5 a6
def zbA (t:Tab) (n:Nat) (a1:Int) (a2 a3:Bool) (a4 a5:Int) (a6:ByteArray) (a7 a8:List zh):Option Bool:=
 if a3=true then
 if (decide ((a6.size:Int) > 1000))=true then
 some false
 else
 if (a5 !=0)=true then
 some false
 else
 if a2=true then
 zbS t n a1 a4 a5 a6 a7 a8
 else
 if (decide ((IntKind.wrap .i64 ((a7.length:Int)+(a8.length:Int))) > 0))=true then
 some false
 else
 zbS t n a1 a4 a5 a6 a7 a8
 else
 if (a6.toList==(ByteArray.mk #[]).toList)=true then
 if (decide ((a6.size:Int) > 1000))=true then
 some false
 else
 if a2=true then
 if (a5 !=0)=true then
 some false
 else
 zbS t n a1 a4 a5 a6 a7 a8
 else
 if (decide ((IntKind.wrap .i64 ((a7.length:Int)+(a8.length:Int))) > 0))=true then
 some false
 else
 zbS t n a1 a4 a5 a6 a7 a8
 else
 some false
def zaT (t:Tab) (n:Nat) (a1:Int) (a2 a3:Bool) (a4:Int) (a5:Bool) (a6 a7:Int) (a8:ByteArray) (a9 a10:List zh):Option (Bool⊕(Int × Bool × Bool × Int × Int × ByteArray × (List zh) × (List zh))):=
 if a5=true then
 if (decide (a7 < 0))=true then
 some (.inl false)
 else
 some (.inr (a1,a2,a3,a6,a7,a8,a9,a10))
 else
 if (a4==3)=true then
 some (.inr (a1,a2,true,a6,a7,a8,a9,a10))
 else
 if (a4==6)=true then
 some (.inr (a1,true,a3,a6,a7,a8,a9,a10))
 else
 if (a4==8)=true then
 some (.inr (a1,true,a3,a6,a7,a8,a9,a10))
 else
 if (a4==7)=true then
 some (.inr (a1,true,a3,a6,a7,a8,a9,a10))
 else
 some (.inl false)
def zbq (t:Tab) (n:Nat):zh→Int→Option Bool
 | ⟨a1,a2,a3,a4,a5⟩,a6=>
 if (decide (a6 > 12))=true then
 some false
 else
 if (a1==1)=true then
 if (decide (a2 < 0))=true then
 some false
 else
 if (decide (a2 > 1))=true then
 some false
 else
 zbA t n a6 false false a1 a2 a3 a4 a5
 else
 if (a1==2)=true then
 zbA t n a6 false false a1 a2 a3 a4 a5
 else
 if (a1==4)=true then
 (match zaT t n a6 false false a1 (a1==4) a1 a2 a3 a4 a5 with
 | some (.inl a9)=>
 some a9
 | some (.inr (a10,a11,a12,a13,a14,a15,a16,a17))=>
 zbA t n a10 a11 a12 a13 a14 a15 a16 a17
 | none=>none)
 else
 (match zaT t n a6 false false a1 (a1==5) a1 a2 a3 a4 a5 with
 | some (.inl a19)=>
 some a19
 | some (.inr (a20,a21,a22,a23,a24,a25,a26,a27))=>
 zbA t n a20 a21 a22 a23 a24 a25 a26 a27
 | none=>none)
def zdA (t:Tab) (n:Nat) (a1:Int) (a2:List zh) (a3:List GPred) (a4:Int):Option Bool:=
 (match t.zQ a3 a4 with
 | some a5=>
 if a5=true then
 some false
 else
 (match t.zW a2 with
 | some a6=>
 some (!a6)
 | none=>none)
 | none=>none)
def zcq (t:Tab) (n:Nat):GPred→Int→Option Bool
 | ⟨a1,a2,a3⟩,a4=>
 (match t.zcr a1 with
 | some (a5,a6,a7,a8)=>
 if (decide (a4 > 12))=true then
 some false
 else
 if (decide ((a2.length:Int) < a5))=true then
 some false
 else
 if (decide ((a2.length:Int) > a6))=true then
 some false
 else
 if (decide ((a3.length:Int) < a7))=true then
 some false
 else
 if (decide ((a3.length:Int) > a8))=true then
 some false
 else
 zdA t n a1 a2 a3 a4
 | none=>none)
def slices_Contains_string (t:Tab) (n:Nat):(List ByteArray)→ByteArray→Option Bool
 | a1,a2=>
 (match t.slices_Index_string a1 a2 with
 | some a3=>
 some (decide (a3≥0))
 | none=>none)
def zI (t:Tab) (n:Nat):(List Int)→Option Bool
 | a1=>
 (match t.zab a1 with
 | some a2=>
 some (decide (a2≥0))
 | none=>none)
def zb7 (t:Tab) (n:Nat):Nat→ByteArray→Int→Int→Option (Bool⊕(ByteArray × Int × Int × Bool))
 | 0,_,_,_=>none
 | k+1,a1,a2,a3=>
 if (decide (a3 < a2))=true then
 (match strAt a1 a3 with
 | some a4=>
 (match t.zc1 a4 (a3==0)with
 | some a5=>
 if a5=true then
 zb7 t n k a1 a2 (IntKind.wrap .i64 (a3+1))
 else
 some (.inl false)
 | none=>none)
 | none=>none)
 else
 some (.inr (a1,a2,a3,(decide (a3 < a2))))
def zdM (t:Tab) (n:Nat) (a1:ByteArray):Option Bool:=
 if (a1.toList==(ByteArray.mk #[]).toList)=true then
 some false
 else
 some (decide ((a1.size:Int)≤40))
def zcP (t:Tab) (n:Nat):ByteArray→Option Bool
 | a1=>
 (match zb7 t n n a1 (a1.size:Int) 0 with
 | some (.inl a2)=>
 some a2
 | some (.inr (a3,a4,a5,a6))=>
 zdM t n a3
 | none=>none)
def cmp_Compare_int (t:Tab) (n:Nat):Int→Int→Option Int
 | a1,a2=>
 (match t.cmp_isNaN_int a1 with
 | some a3=>
 (match t.cmp_isNaN_int a2 with
 | some a4=>
 if a3=true then
 if a4=true then
 some 0
 else
 some (-1)
 else
 if a4=true then
 some 1
 else
 if (decide (a1 < a2))=true then
 some (-1)
 else
 if (decide (a1 > a2))=true then
 some 1
 else
 some 0
 | none=>none)
 | none=>none)
def strings_Compare (t:Tab) (n:Nat):ByteArray→ByteArray→Option Int
 | a1,a2=>
 t.bytealg_CompareString a1 a2
def zb8 (t:Tab) (n:Nat):Nat→Int→(List Int)→Int→Int→Option (Int⊕(Int × (List Int) × Int × Int × Bool))
 | 0,_,_,_,_=>none
 | k+1,a1,a2,a3,a4=>
 if (decide (a4 < a3))=true then
 if (decide (0≤(a4:Int)))=true then
 (match a2[(a4:Int).toNat]? with
 | some a5=>
 if (a5 !=a1)=true then
 some (.inl a5)
 else
 zb8 t n k a1 a2 a3 (IntKind.wrap .i64 (a4+1))
 | none=>none)
 else none
 else
 some (.inr (a1,a2,a3,a4,(decide (a4 < a3))))
def zdi (t:Tab) (n:Nat):(List Int)→Option Int
 | a1=>
 (match zb8 t n n 0 a1 (a1.length:Int) 0 with
 | some (.inl a2)=>
 some a2
 | some (.inr (a3,a4,a5,a6,a7))=>
 some a3
 | none=>none)
def zC (t:Tab) (n:Nat):Nat→(List zh)→(List zh)→Int→(List zh)→Int→Int→Option (Int⊕((List zh) × (List zh) × Int × (List zh) × Int × Int × Bool))
 | 0,_,_,_,_,_,_=>none
 | k+1,a1,a2,a3,a4,a5,a6=>
 if (decide (a6 < a5))=true then
 if (decide (0≤(a6:Int)))=true then
 (match a4[(a6:Int).toNat]? with
 | some ⟨a7,a8,a9,a10,a11⟩=>
 if (decide (a6≥(a2.length:Int)))=true then
 some (.inl 1)
 else
 (match a2[(a6:Int).toNat]? with
 | some ⟨a12,a13,a14,a15,a16⟩=>
 (match t.zaY (zh.mk a7 a8 a9 a10 a11) (zh.mk a12 a13 a14 a15 a16) a3 with
 | some a17=>
 if (a17 !=0)=true then
 some (.inl a17)
 else
 zC t n k a1 a2 a3 a4 a5 (IntKind.wrap .i64 (a6+1))
 | none=>none)
 | none=>none)
 | none=>none)
 else none
 else
 some (.inr (a1,a2,a3,a4,a5,a6,(decide (a6 < a5))))
def zat (t:Tab) (n:Nat) (a1 a2:List zh):Option Int:=
 if (decide ((a1.length:Int) < (a2.length:Int)))=true then
 some (-1)
 else
 some 0
def zJ (t:Tab) (n:Nat):(List zh)→(List zh)→Int→Option Int
 | a1,a2,a3=>
 (match zC t n n a1 a2 a3 a1 (a1.length:Int) 0 with
 | some (.inl a4)=>
 some a4
 | some (.inr (a5,a6,a7,a8,a9,a10,a11))=>
 zat t n a5 a6
 | none=>none)
def zcK (t:Tab) (n:Nat):ByteArray→Option Bool
 | a1=>
 (match t.zcP a1 with
 | some a2=>
 some (!a2)
 | none=>none)
def zaU (t:Tab) (n:Nat):Nat→(List (List zh))→Int→(List (List zh))→Int→Int→Option ((List (List zh)) × Int × (List (List zh)) × Int × Int × Bool)
 | 0,_,_,_,_,_=>none
 | k+1,a1,a2,a3,a4,a5=>
 if (decide (a5 < a4))=true then
 if (decide (0≤(a5:Int)))=true then
 (match a3[(a5:Int).toNat]? with
 | some a6=>
 if (decide ((IntKind.wrap .i64 (a2+(a6.length:Int))) < 0))=true then
 none
 else
 zaU t n k a1 (IntKind.wrap .i64 (a2+(a6.length:Int))) a3 a4 (IntKind.wrap .i64 (a5+1))
 | none=>none)
 else none
 else
 some (a1,a2,a3,a4,a5,(decide (a5 < a4)))
def zaV (t:Tab) (n:Nat):Nat→(List zh)→(List (List zh))→Int→Int→Option ((List zh) × (List (List zh)) × Int × Int × Bool)
 | 0,_,_,_,_=>none
 | k+1,a1,a2,a3,a4=>
 if (decide (a4 < a3))=true then
 if (decide (0≤(a4:Int)))=true then
 (match a2[(a4:Int).toNat]? with
 | some a5=>
 if (a1.length+a5.length) * 80≤140737488355328 then
 zaV t n k (a1++a5) a2 a3 (IntKind.wrap .i64 (a4+1))
 else none
 | none=>none)
 else none
 else
 some (a1,a2,a3,a4,(decide (a4 < a3)))
def zbT (t:Tab) (n:Nat) (a1:List (List zh)) (a2:Int):Option (List zh):=
 (match t.zdW ([]:List zh) a2 with
 | some a3=>
 (match zaV t n n a3 a1 (a1.length:Int) 0 with
 | some (a4,a5,a6,a7,a8)=>
 some a4
 | none=>none)
 | none=>none)
def zav (t:Tab) (n:Nat):(List (List zh))→Option (List zh)
 | a1=>
 (match zaU t n n a1 0 a1 (a1.length:Int) 0 with
 | some (a2,a3,a4,a5,a6,a7)=>
 zbT t n a2 a3
 | none=>none)
def zcv (t:Tab) (n:Nat) (a1:Int) (a2:Bool):Option ((Int × Int × Int × Int)⊕Unit):=
 if a2=true then
 some (.inl (0,1000,0,0))
 else
 if (a1==12)=true then
 some (.inl (0,0,1,1))
 else
 if (a1==13)=true then
 some (.inl (0,0,2,1000))
 else
 if (a1==14)=true then
 some (.inl (0,0,2,1000))
 else
 some (.inr ())
def zcw (t:Tab) (n:Nat) (a1:Int) (a2:Bool):Option ((Int × Int × Int × Int)⊕Unit):=
 if a2=true then
 some (.inl (2,2,0,0))
 else
 if (a1==10)=true then
 zcv t n a1 true
 else
 zcv t n a1 (a1==11)
def zbr (t:Tab) (n:Nat) (a1:Int) (a2:Bool):Option ((Int × Int × Int × Int)⊕Unit):=
 if a2=true then
 some (.inl (1,1,0,0))
 else
 if (decide (a1≥7))=true then
 zcw t n a1 (decide (a1≤9))
 else
 zcw t n a1 false
def zcr (t:Tab) (n:Nat):Int→Option (Int × Int × Int × Int)
 | a1=>
 if (decide (a1≥1))=true then
 (match zbr t n a1 (decide (a1≤6))with
 | some (.inl (a2,a3,a4,a5))=>
 some (a2,a3,a4,a5)
 | some (.inr ())=>
 some (1,0,1,0)
 | none=>none)
 else
 (match zbr t n a1 false with
 | some (.inl (a6,a7,a8,a9))=>
 some (a6,a7,a8,a9)
 | some (.inr ())=>
 some (1,0,1,0)
 | none=>none)
def zQ (t:Tab) (n:Nat):(List GPred)→Int→Option Bool
 | a1,a2=>
 (match t.zah a1 a2 with
 | some a3=>
 some (decide (a3≥0))
 | none=>none)
def zW (t:Tab) (n:Nat):(List zh)→Option Bool
 | a1=>
 (match t.zai a1 with
 | some a2=>
 some (decide (a2≥0))
 | none=>none)
def zas (t:Tab) (n:Nat):Nat→(List ByteArray)→ByteArray→Int→Int→Option (Int⊕((List ByteArray) × ByteArray × Int × Int × Bool))
 | 0,_,_,_,_=>none
 | k+1,a1,a2,a3,a4=>
 if (decide (a4 < a3))=true then
 if (decide (0≤(a4:Int)))=true then
 (match a1[(a4:Int).toNat]? with
 | some a5=>
 if (a2.toList==a5.toList)=true then
 some (.inl a4)
 else
 zas t n k a1 a2 a3 (IntKind.wrap .i64 (a4+1))
 | none=>none)
 else none
 else
 some (.inr (a1,a2,a3,a4,(decide (a4 < a3))))
def slices_Index_string (t:Tab) (n:Nat):(List ByteArray)→ByteArray→Option Int
 | a1,a2=>
 (match zas t n n a1 a2 (a1.length:Int) 0 with
 | some (.inl a3)=>
 some a3
 | some (.inr (a4,a5,a6,a7,a8))=>
 some (-1)
 | none=>none)
def zK (t:Tab) (n:Nat):Nat→(List Int)→Int→Int→Option (Int⊕((List Int) × Int × Int × Bool))
 | 0,_,_,_=>none
 | k+1,a1,a2,a3=>
 if (decide (a3 < a2))=true then
 if (decide (0≤(a3:Int)))=true then
 (match a1[(a3:Int).toNat]? with
 | some a4=>
 (match t.zbn a4 with
 | some a5=>
 if a5=true then
 some (.inl a3)
 else
 zK t n k a1 a2 (IntKind.wrap .i64 (a3+1))
 | none=>none)
 | none=>none)
 else none
 else
 some (.inr (a1,a2,a3,(decide (a3 < a2))))
def zab (t:Tab) (n:Nat):(List Int)→Option Int
 | a1=>
 (match zK t n n a1 (a1.length:Int) 0 with
 | some (.inl a2)=>
 some a2
 | some (.inr (a3,a4,a5,a6))=>
 some (-1)
 | none=>none)
def zaK (t:Tab) (n:Nat) (a1:Int) (a2 a3:Bool):Option (Int × Bool × Bool):=
 if a3=true then
 some (a1,a2,a3)
 else
 if (decide (a1≥65))=true then
 if (decide (a1≤90))=true then
 some (a1,a2,(decide (a1≤90)))
 else
 some (a1,a2,(a1==95))
 else
 some (a1,a2,(a1==95))
def zaL (t:Tab) (n:Nat) (a1:Int) (a2 a3:Bool):Option (Bool⊕Unit):=
 if a3=true then
 some (.inl true)
 else
 if (decide (a1≥48))=true then
 if (decide (a1≤57))=true then
 some (.inl (!a2))
 else
 some (.inr ())
 else
 some (.inr ())
def zc1 (t:Tab) (n:Nat):Int→Bool→Option Bool
 | a1,a2=>
 if (decide (a1≥97))=true then
 (match zaK t n a1 a2 (decide (a1≤122))with
 | some (a3,a4,a5)=>
 (match zaL t n a3 a4 a5 with
 | some (.inl a6)=>
 some a6
 | some (.inr ())=>
 some false
 | none=>none)
 | none=>none)
 else
 (match zaK t n a1 a2 false with
 | some (a7,a8,a9)=>
 (match zaL t n a7 a8 a9 with
 | some (.inl a10)=>
 some a10
 | some (.inr ())=>
 some false
 | none=>none)
 | none=>none)
def cmp_isNaN_int (t:Tab) (n:Nat):Int→Option Bool
 | a1=>
 some (a1 !=a1)
def zaY (t:Tab) (n:Nat):zh→zh→Int→Option Int
 | ⟨a1,a2,a3,a4,a5⟩,⟨a6,a7,a8,a9,a10⟩,a11=>
 t.zbp (zh.mk a1 a2 a3 a4 a5) (zh.mk a6 a7 a8 a9 a10) (IntKind.wrap .i64 (a11+1))
def zR (t:Tab) (n:Nat):Nat→(List GPred)→Int→Int→Int→Option (Int⊕((List GPred) × Int × Int × Int × Bool))
 | 0,_,_,_,_=>none
 | k+1,a1,a2,a3,a4=>
 if (decide (a4 < a3))=true then
 if (decide (0≤(a4:Int)))=true then
 (match a1[(a4:Int).toNat]? with
 | some ⟨a5,a6,a7⟩=>
 (match t.zcf (GPred.mk a5 a6 a7) a2 with
 | some a8=>
 if a8=true then
 some (.inl a4)
 else
 zR t n k a1 a2 a3 (IntKind.wrap .i64 (a4+1))
 | none=>none)
 | none=>none)
 else none
 else
 some (.inr (a1,a2,a3,a4,(decide (a4 < a3))))
def zah (t:Tab) (n:Nat):(List GPred)→Int→Option Int
 | a1,a2=>
 (match zR t n n a1 a2 (a1.length:Int) 0 with
 | some (.inl a3)=>
 some a3
 | some (.inr (a4,a5,a6,a7,a8))=>
 some (-1)
 | none=>none)
def zS (t:Tab) (n:Nat):Nat→(List zh)→Int→Int→Option (Int⊕((List zh) × Int × Int × Bool))
 | 0,_,_,_=>none
 | k+1,a1,a2,a3=>
 if (decide (a3 < a2))=true then
 if (decide (0≤(a3:Int)))=true then
 (match a1[(a3:Int).toNat]? with
 | some ⟨a4,a5,a6,a7,a8⟩=>
 (match t.zcg (zh.mk a4 a5 a6 a7 a8)with
 | some a9=>
 if a9=true then
 some (.inl a3)
 else
 zS t n k a1 a2 (IntKind.wrap .i64 (a3+1))
 | none=>none)
 | none=>none)
 else none
 else
 some (.inr (a1,a2,a3,(decide (a3 < a2))))
def zai (t:Tab) (n:Nat):(List zh)→Option Int
 | a1=>
 (match zS t n n a1 (a1.length:Int) 0 with
 | some (.inl a2)=>
 some a2
 | some (.inr (a3,a4,a5,a6))=>
 some (-1)
 | none=>none)
def zbn (t:Tab) (n:Nat):Int→Option Bool
 | a1=>
 some (decide (a1 < 0))
def zcf (t:Tab) (n:Nat):GPred→Int→Option Bool
 | ⟨a1,a2,a3⟩,a4=>
 (match t.zcq (GPred.mk a1 a2 a3) (IntKind.wrap .i64 (a4+1))with
 | some a5=>
 some (!a5)
 | none=>none)
def zcg (t:Tab) (n:Nat):zh→Option Bool
 | ⟨a1,a2,a3,a4,a5⟩=>
 (match t.zbR (zh.mk a1 a2 a3 a4 a5)with
 | some a6=>
 some (a6 !=0)
 | none=>none)
def tab:Nat→Tab
 | 0=>⟨fun _ _ _=>none,
 fun _=>none,
 none,
 fun _=>none,
 fun _=>none,
 fun _ _=>none,
 fun _ _=>none,
 fun _ _=>none,
 fun _ _ _=>none,
 fun _=>none,
 fun _=>none,
 fun _=>none,
 fun _=>none,
 fun _ _=>none,
 fun _ _=>none,
 fun _ _=>none,
 fun _ _=>none,
 fun _ _=>none,
 fun _ _=>none,
 fun _ _=>none,
 fun _ _=>none,
 fun _ _=>none,
 fun _ _=>none,
 fun _=>none,
 fun _ _=>none,
 fun _=>none,
 fun _ _=>none,
 fun _ _=>none,
 fun _ _=>none,
 fun _ _ _=>none,
 fun _ _=>none,
 fun _ _=>none,
 fun _ _ _=>none,
 fun _ _=>none,
 fun _=>none,
 fun _=>none,
 fun _=>none,
 fun _=>none,
 fun _ _=>none,
 fun _ _=>none,
 fun _ _=>none,
 fun _ _=>none,
 fun _ _ _=>none,
 fun _=>none,
 fun _ _=>none,
 fun _ _=>none,
 fun _ _=>none,
 fun _ _=>none,
 fun _=>none,
 fun _ _=>none,
 fun _ _=>none,
 fun _ _=>none,
 fun _ _=>none,
 fun _ _=>none,
 fun _ _=>none,
 fun _ _=>none,
 fun _ _=>none,
 fun _ _=>none,
 fun _ _=>none,
 fun _ _=>none,
 fun _=>none,
 none,
 fun _ _=>none,
 fun _=>none,
 fun _=>none,
 fun _=>none,
 fun _=>none,
 fun _=>none,
 fun _=>none,
 fun _ _ _=>none,
 fun _ _ _=>none,
 fun _=>none,
 fun _ _=>none,
 fun _ _=>none,
 fun _ _=>none,
 fun _=>none,
 fun _=>none,
 fun _ _=>none,
 fun _ _=>none,
 fun _=>none,
 fun _ _ _=>none,
 fun _=>none,
 fun _=>none,
 fun _=>none,
 fun _ _=>none,
 fun _=>none,
 fun _ _=>none,
 fun _=>none,
 fun _ _=>none,
 fun _=>none,
 fun _ _=>none,
 fun _ _ _=>none,
 fun _ _=>none,
 fun _ _=>none,
 fun _=>none,
 fun _=>none,
 fun _ _=>none,
 fun _=>none⟩
 | n+1=>⟨zbJ (tab n) n,
 zcU (tab n) n,
 zbi (tab n) n,
 zde (tab n) n,
 zbC (tab n) n,
 zbf (tab n) n,
 zdq (tab n) n,
 zaA (tab n) n,
 zbo (tab n) n,
 zdu (tab n) n,
 zdD (tab n) n,
 zcL (tab n) n,
 zdx (tab n) n,
 zaN (tab n) n,
 zac (tab n) n,
 zb9 (tab n) n,
 za2 (tab n) n,
 zb0 (tab n) n,
 zbI (tab n) n,
 zaO (tab n) n,
 zaQ (tab n) n,
 zbD (tab n) n,
 zcJ (tab n) n,
 zc8 (tab n) n,
 zaM (tab n) n,
 zc6 (tab n) n,
 za5 (tab n) n,
 za3 (tab n) n,
 zca (tab n) n,
 zaJ (tab n) n,
 zbO (tab n) n,
 zdr (tab n) n,
 zco (tab n) n,
 zO (tab n) n,
 fun a=>if decide (a.length * 16≤140737488355328)=true then some a else none,
 fun a=>if decide (a.length * 8≤140737488355328)=true then some a else none,
 zcM (tab n) n,
 zdH (tab n) n,
 zdf (tab n) n,
 zaj (tab n) n,
 zbg (tab n) n,
 zdj (tab n) n,
 zdg (tab n) n,
 zdh (tab n) n,
 zaf (tab n) n,
 zcN (tab n) n,
 zc5 (tab n) n,
 zc0 (tab n) n,
 fun a=>if decide (a.length * 24≤140737488355328)=true then some a else none,
 zbP (tab n) n,
 zcb (tab n) n,
 slices_Equal_string (tab n) n,
 slices_Equal_int (tab n) n,
 zbc (tab n) n,
 zbh (tab n) n,
 zaS (tab n) n,
 zdI (tab n) n,
 zdy (tab n) n,
 zad (tab n) n,
 zZ (tab n) n,
 zdk (tab n) n,
 zcx (tab n) n,
 zdv (tab n) n,
 zA (tab n) n,
 zbR (tab n) n,
 zcO (tab n) n,
 zcp (tab n) n,
 zcB (tab n) n,
 zbB (tab n) n,
 zdJ (tab n) n,
 zbp (tab n) n,
 zal (tab n) n,
 zbq (tab n) n,
 zcq (tab n) n,
 slices_Contains_string (tab n) n,
 zI (tab n) n,
 zcP (tab n) n,
 cmp_Compare_int (tab n) n,
 strings_Compare (tab n) n,
 zdi (tab n) n,
 zJ (tab n) n,
 zcK (tab n) n,
 zav (tab n) n,
 zcr (tab n) n,
 zQ (tab n) n,
 zW (tab n) n,
 slices_Index_string (tab n) n,
 zab (tab n) n,
 zc1 (tab n) n,
 cmp_isNaN_int (tab n) n,
 fun a b=>some (Lib.compareBytes a.data.toList b.data.toList),
 zaY (tab n) n,
 fun a n=>if a.isEmpty=true then if decide (0≤n∧n * 80≤140737488355328)=true then some ([]:List zh)else none else none,
 zah (tab n) n,
 zai (tab n) n,
 zbn (tab n) n,
 zcf (tab n) n,
 zcg (tab n) n⟩
end Go.Proofs.YtgmidllbkjdnnaaDoor.W
