/- The functions of this program, over plain data. -/
import Derived.Test.YtgmidllbkjdnnaaDoorL6A
import Derived.Lib.Bytealg
namespace Go.Proofs.YtgmidllbkjdnnaaDoor.W
open Go.Proofs.YtgmidllbkjdnnaaDoor.Flat
set_option linter.unusedVariables false
set_option linter.unusedSimpArgs false
structure Tab where
  zbe:(List GStep)→Int→Int→Option Bool
  zcI:(List GStep)→Option Bool
  zbJ:Option Bool
  zbK:(List GStep)→Option (GProg × Int)
  za6:GProg→Option ((List GStep) × Int)
  zbt:GProg→Option Int
  zbp:(List GStep)→Int→Int→Option Int
  zcJ:(List GStep)→(List GStep)→Option Bool
  zdH:GProg→GProg→Option Bool
  zcm:(List GStep)→Option Int
  zdb:(List GStep)→Option (List GStep)
  zaL:(List GStep)→zR→Option (Int × zR)
  zaf:Int→zF→Option ((List GStep) × Bool × zF)
  zbo:zh→Int→Option Int
  zck:GPred→Int→Option Int
  zcN:GStep→Option (List (List GStep))
  zbR:(List ByteArray)→(List ByteArray)→Option Bool
  zb1:(List Int)→(List Int)→Option Bool
  zdl:zh→zh→Option Bool
  zdm:GPred→GPred→Option Bool
  zay:(List (List GCode))→(List (List GCode))→Option Bool
  zcK:(List GStep)→Option Int
  zaY:(List GStep)→Int→Option Bool
  zaW:(List GStep)→Int→Option (List GStep)
  zc5:(List zh)→Int→Option Int
  zcg:zh→zh→Int→Option Int
  zcU:(List zh)→(List zh)→Option Bool
  zc6:(List GCode)→(List GCode)→Option Bool
  zbV:(List GStep)→Int→Int→Option Int
  zK:(List GStep)→Int→Option Bool
  slices_Clone_string:(List ByteArray)→Option (List ByteArray)
  slices_Clone_int:(List Int)→Option (List Int)
  zcn:zh→Option zh
  zdj:GPred→Option GPred
  zcY:(List (List GStep))→Int→Option (List (List GStep))
  zca:Int→Int→Option Int
  zdq:ByteArray→ByteArray→Option Int
  zdn:(List zh)→(List zh)→Int→Option Int
  zaD:(List GCode)→(List GCode)→Option Bool
  zcZ:GStep→Option (List (List GStep))
  zaa:(List GStep)→Int→Option Int
  zco:zh→Int→Option zh
  zcH:GPred→Int→Option GPred
  zdx:GCode→GCode→Option Bool
  zdE:(List (List GStep))→Option (List (List GStep))
  zby:GStep→Int→Option Bool
  zbL:(List zh)→Int→Option (List zh)
  slices_Equal_string:(List ByteArray)→(List ByteArray)→Option Bool
  slices_Equal_int:(List Int)→(List Int)→Option Bool
  zcj:(List GKey)→(List GKey)→Option Bool
  zbk:zh→zh→Option Bool
  zbW:GPred→GPred→Option Bool
  zdk:GStep→Int→Option Bool
  zdc:zh→zh→Option Int
  zax:(List zh)→(List zh)→Option Bool
  zat:(List GPred)→(List GPred)→Option Bool
  zc1:Int→Option ByteArray
  zb5:Option GT108
  zc9:Int→GT105→Option Bool
  zz:(List ByteArray)→Option Bool
  zbA:zh→Option Int
  zcp:GPred→Option Int
  zbX:(List ByteArray)→Option Bool
  zcd:GPred→Option Bool
  zbn:GStep→Option Bool
  zdo:GBy→Bool→Int→Option Bool
  zbb:zh→zh→Int→Option Int
  zah:(List ByteArray)→Option Int
  zbc:zh→Int→Option Bool
  zbY:GPred→Int→Option Bool
  slices_Contains_string:(List ByteArray)→ByteArray→Option Bool
  zH:(List Int)→Option Bool
  zcq:ByteArray→Option Bool
  cmp_Compare_int:Int→Int→Option Int
  strings_Compare:ByteArray→ByteArray→Option Int
  zc0:(List Int)→Option Int
  zI:(List zh)→(List zh)→Int→Option Int
  zcl:ByteArray→Option Bool
  zaz:(List (List zh))→Option (List zh)
  zbZ:Int→Option (Int × Int × Int × Int)
  zM:(List GPred)→Int→Option Bool
  zS:(List zh)→Option Bool
  slices_Index_string:(List ByteArray)→ByteArray→Option Int
  zW:(List Int)→Option Int
  zcz:Int→Bool→Option Bool
  cmp_isNaN_int:Int→Option Bool
  bytealg_CompareString:ByteArray→ByteArray→Option Int
  zaS:zh→zh→Int→Option Int
  zdF:(List zh)→Int→Option (List zh)
  zab:(List GPred)→Int→Option Int
  zac:(List zh)→Option Int
  zba:Int→Option Bool
  zbP:GPred→Int→Option Bool
  zbQ:zh→Option Bool
def zaA (t:Tab) (n:Nat):GProg→Option Bool
 | ⟨a1⟩=>
 (match t.za6 (GProg.mk a1)with
 | some (a2,a3)=>
 (match t.zbt (GProg.mk a1)with
 | some a4=>
 if (a4==2)=true then
 if (a3==2)=true then
 if ((a2.length:Int)==0)=true then
 t.zbJ
 else
 some false
 else
 some false
 else
 some false
 | none=>none)
 | none=>none)
def zb8 (t:Tab) (n:Nat):Int→Int→GProg→Option Bool
 | a1,a2,⟨a3⟩=>
 (match remI .u64 (IntKind.wrap .u64 a1) (IntKind.wrap .u64 (a3.length:Int))with
 | some a4=>
 (match remI .u8 a2 5 with
 | some a5=>
 if (a5==0)=true then
 if (a3.length+([([]:List GCode)]:List (List GCode)).length) * 24≤140737488355328 then
 zaA t n (GProg.mk (a3++([([]:List GCode)]:List (List GCode))))
 else none
 else
 if (a5==1)=true then
 if (decide (0≤(0:Int)∧(0:Int)≤((IntKind.wrap .i64 ((a3.length:Int)-1)):Int)∧((IntKind.wrap .i64 ((a3.length:Int)-1)):Int)≤(a3.length:Int)))=true then
 zaA t n (GProg.mk ((a3.take ((IntKind.wrap .i64 ((a3.length:Int)-1)):Int).toNat).drop (0:Int).toNat))
 else none
 else
 if (a5==2)=true then
 if (decide (0≤((IntKind.wrap .i64 a4):Int)))=true then
 (match a3[((IntKind.wrap .i64 a4):Int).toNat]? with
 | some a8=>
 if (a8.length+([(GCode.mk 28 ([]:List ByteArray) ([]:List Int) (zh.mk 0 0 ByteArray.empty ([]:List zh) ([]:List zh)) (GPred.mk 0 ([]:List zh) ([]:List GPred)) ([(IntKind.wrap .i64 ((a3.length:Int)-1))]:List Int) ([]:List GKey) ([]:List ByteArray))]:List GCode).length) * 264≤140737488355328 then
 zaA t n (GProg.mk (a3.set ((IntKind.wrap .i64 a4):Int).toNat (a8++([(GCode.mk 28 ([]:List ByteArray) ([]:List Int) (zh.mk 0 0 ByteArray.empty ([]:List zh) ([]:List zh)) (GPred.mk 0 ([]:List zh) ([]:List GPred)) ([(IntKind.wrap .i64 ((a3.length:Int)-1))]:List Int) ([]:List GKey) ([]:List ByteArray))]:List GCode))))
 else none
 | none=>none)
 else none
 else
 if (a5==3)=true then
 if (decide (0≤((IntKind.wrap .i64 a4):Int)))=true then
 (match a3[((IntKind.wrap .i64 a4):Int).toNat]? with
 | some a10=>
 if (a10.length+([(GCode.mk 28 ([]:List ByteArray) ([]:List Int) (zh.mk 0 0 ByteArray.empty ([]:List zh) ([]:List zh)) (GPred.mk 0 ([]:List zh) ([]:List GPred)) ([(IntKind.wrap .i64 a4)]:List Int) ([]:List GKey) ([]:List ByteArray))]:List GCode).length) * 264≤140737488355328 then
 zaA t n (GProg.mk (a3.set ((IntKind.wrap .i64 a4):Int).toNat (a10++([(GCode.mk 28 ([]:List ByteArray) ([]:List Int) (zh.mk 0 0 ByteArray.empty ([]:List zh) ([]:List zh)) (GPred.mk 0 ([]:List zh) ([]:List GPred)) ([(IntKind.wrap .i64 a4)]:List Int) ([]:List GKey) ([]:List ByteArray))]:List GCode))))
 else none
 | none=>none)
 else none
 else
 if (decide (0≤((IntKind.wrap .i64 a4):Int)))=true then
 (match a3[((IntKind.wrap .i64 a4):Int).toNat]? with
 | some a12=>
 if (a12.length+([(GCode.mk 0 ([]:List ByteArray) ([]:List Int) (zh.mk 0 0 ByteArray.empty ([]:List zh) ([]:List zh)) (GPred.mk 0 ([]:List zh) ([]:List GPred)) ([]:List Int) ([]:List GKey) ([]:List ByteArray))]:List GCode).length) * 264≤140737488355328 then
 zaA t n (GProg.mk (a3.set ((IntKind.wrap .i64 a4):Int).toNat (a12++([(GCode.mk 0 ([]:List ByteArray) ([]:List Int) (zh.mk 0 0 ByteArray.empty ([]:List zh) ([]:List zh)) (GPred.mk 0 ([]:List zh) ([]:List GPred)) ([]:List Int) ([]:List GKey) ([]:List ByteArray))]:List GCode))))
 else none
 | none=>none)
 else none
 | none=>none)
 | none=>none)
def zbe (t:Tab) (n:Nat):(List GStep)→Int→Int→Option Bool
 | a1,a2,a3=>
 (match t.zcI a1 with
 | some a4=>
 if a4=true then
 t.zbJ
 else
 (match t.zbK a1 with
 | some (⟨a6⟩,a7)=>
 if (a7 !=0)=true then
 t.zbJ
 else
 if ((a6.length:Int)==0)=true then
 t.zbJ
 else
 zb8 t n a2 a3 (GProg.mk a6)
 | none=>none)
 | none=>none)
def zcI (t:Tab) (n:Nat):(List GStep)→Option Bool
 | a1=>
 (match t.zbp a1 1000 14 with
 | some a2=>
 some (decide (a2≥1000))
 | none=>none)
def zdv (t:Tab) (n:Nat):(List GStep)→(List GStep)→GProg→Option Bool
 | a1,a2,⟨a3⟩=>
 if (decide (0≤(0:Int)))=true then
 (match a3[(0:Int).toNat]? with
 | some a4=>
 if (decide (0≤(2:Int)))=true then
 (match a4[(2:Int).toNat]? with
 | some ⟨a5,a6,a7,⟨a8,a9,a10,a11,a12⟩,⟨a13,a14,a15⟩,a16,a17,a18⟩=>
 (match a16[(0:Int).toNat]? with
 | some a19=>
 if (a19==3)=true then
 if (decide (0≤(1:Int)))=true then
 (match a3[(1:Int).toNat]? with
 | some a20=>
 (match a20[(1:Int).toNat]? with
 | some ⟨a21,a22,a23,⟨a24,a25,a26,a27,a28⟩,⟨a29,a30,a31⟩,a32,a33,a34⟩=>
 if (a21==28)=true then
 if (decide (0≤(3:Int)))=true then
 (match a3[(3:Int).toNat]? with
 | some a35=>
 (match a35[(0:Int).toNat]? with
 | some ⟨a36,a37,a38,⟨a39,a40,a41,a42,a43⟩,⟨a44,a45,a46⟩,a47,a48,a49⟩=>
 if (a36==12)=true then
 (match t.zcJ a1 a2 with
 | some a50=>
 if a50=true then
 (match t.zbt (GProg.mk ([]:List (List GCode)))with
 | some a51=>
 if (a51==2)=true then
 t.zdH (GProg.mk a3) (GProg.mk a3)
 else
 some false
 | none=>none)
 else
 some false
 | none=>none)
 else
 some false
 | none=>none)
 | none=>none)
 else none
 else
 some false
 | none=>none)
 | none=>none)
 else none
 else
 some false
 | none=>none)
 | none=>none)
 else none
 | none=>none)
 else none
def zbJ (t:Tab) (n:Nat):Option Bool:=
 (match t.zbK ([(GStep.mk 1 ([]:List ByteArray) ([]:List Int) (zh.mk 0 0 ByteArray.empty ([]:List zh) ([]:List zh)) (GPred.mk 0 ([]:List zh) ([]:List GPred)) ([]:List (List GStep)) ([]:List GBy) ([]:List ByteArray)),(GStep.mk 28 ([]:List ByteArray) ([]:List Int) (zh.mk 0 0 ByteArray.empty ([]:List zh) ([]:List zh)) (GPred.mk 0 ([]:List zh) ([]:List GPred)) ([([(GStep.mk 3 ([]:List ByteArray) ([]:List Int) (zh.mk 0 0 ByteArray.empty ([]:List zh) ([]:List zh)) (GPred.mk 0 ([]:List zh) ([]:List GPred)) ([]:List (List GStep)) ([]:List GBy) ([]:List ByteArray)),(GStep.mk 28 ([]:List ByteArray) ([]:List Int) (zh.mk 0 0 ByteArray.empty ([]:List zh) ([]:List zh)) (GPred.mk 0 ([]:List zh) ([]:List GPred)) ([([(GStep.mk 4 ([]:List ByteArray) ([]:List Int) (zh.mk 0 0 ByteArray.empty ([]:List zh) ([]:List zh)) (GPred.mk 0 ([]:List zh) ([]:List GPred)) ([]:List (List GStep)) ([]:List GBy) ([]:List ByteArray))]:List GStep)]:List (List GStep)) ([]:List GBy) ([]:List ByteArray))]:List GStep)]:List (List GStep)) ([]:List GBy) ([]:List ByteArray)),(GStep.mk 44 ([]:List ByteArray) ([]:List Int) (zh.mk 0 0 ByteArray.empty ([]:List zh) ([]:List zh)) (GPred.mk 0 ([]:List zh) ([]:List GPred)) ([([(GStep.mk 12 ([]:List ByteArray) ([]:List Int) (zh.mk 0 0 ByteArray.empty ([]:List zh) ([]:List zh)) (GPred.mk 0 ([]:List zh) ([]:List GPred)) ([]:List (List GStep)) ([]:List GBy) ([]:List ByteArray))]:List GStep)]:List (List GStep)) ([]:List GBy) ([]:List ByteArray))]:List GStep)with
 | some (⟨a1⟩,a2)=>
 (match t.za6 (GProg.mk a1)with
 | some (a3,a4)=>
 if (a2 !=0)=true then
 some false
 else
 if (a4 !=0)=true then
 some false
 else
 if ((a1.length:Int) !=4)=true then
 some false
 else
 if (decide (0≤(0:Int)))=true then
 (match a1[(0:Int).toNat]? with
 | some a5=>
 if ((a5.length:Int) !=3)=true then
 some false
 else
 if (decide (0≤(2:Int)))=true then
 (match a5[(2:Int).toNat]? with
 | some ⟨a6,a7,a8,⟨a9,a10,a11,a12,a13⟩,⟨a14,a15,a16⟩,a17,a18,a19⟩=>
 if ((a17.length:Int) !=1)=true then
 some false
 else
 if (decide (0≤(1:Int)))=true then
 (match a1[(1:Int).toNat]? with
 | some a20=>
 if ((a20.length:Int) !=2)=true then
 some false
 else
 zdv t n ([(GStep.mk 1 ([]:List ByteArray) ([]:List Int) (zh.mk 0 0 ByteArray.empty ([]:List zh) ([]:List zh)) (GPred.mk 0 ([]:List zh) ([]:List GPred)) ([]:List (List GStep)) ([]:List GBy) ([]:List ByteArray)),(GStep.mk 28 ([]:List ByteArray) ([]:List Int) (zh.mk 0 0 ByteArray.empty ([]:List zh) ([]:List zh)) (GPred.mk 0 ([]:List zh) ([]:List GPred)) ([([(GStep.mk 3 ([]:List ByteArray) ([]:List Int) (zh.mk 0 0 ByteArray.empty ([]:List zh) ([]:List zh)) (GPred.mk 0 ([]:List zh) ([]:List GPred)) ([]:List (List GStep)) ([]:List GBy) ([]:List ByteArray)),(GStep.mk 28 ([]:List ByteArray) ([]:List Int) (zh.mk 0 0 ByteArray.empty ([]:List zh) ([]:List zh)) (GPred.mk 0 ([]:List zh) ([]:List GPred)) ([([(GStep.mk 4 ([]:List ByteArray) ([]:List Int) (zh.mk 0 0 ByteArray.empty ([]:List zh) ([]:List zh)) (GPred.mk 0 ([]:List zh) ([]:List GPred)) ([]:List (List GStep)) ([]:List GBy) ([]:List ByteArray))]:List GStep)]:List (List GStep)) ([]:List GBy) ([]:List ByteArray))]:List GStep)]:List (List GStep)) ([]:List GBy) ([]:List ByteArray)),(GStep.mk 44 ([]:List ByteArray) ([]:List Int) (zh.mk 0 0 ByteArray.empty ([]:List zh) ([]:List zh)) (GPred.mk 0 ([]:List zh) ([]:List GPred)) ([([(GStep.mk 12 ([]:List ByteArray) ([]:List Int) (zh.mk 0 0 ByteArray.empty ([]:List zh) ([]:List zh)) (GPred.mk 0 ([]:List zh) ([]:List GPred)) ([]:List (List GStep)) ([]:List GBy) ([]:List ByteArray))]:List GStep)]:List (List GStep)) ([]:List GBy) ([]:List ByteArray))]:List GStep) a3 (GProg.mk a1)
 | none=>none)
 else none
 | none=>none)
 else none
 | none=>none)
 else none
 | none=>none)
 | none=>none)
def zbK (t:Tab) (n:Nat):(List GStep)→Option (GProg × Int)
 | a1=>
 (match t.zcm a1 with
 | some a2=>
 if (a2 !=0)=true then
 some ((GProg.mk ([]:List (List GCode))),a2)
 else
 (match t.zdb a1 with
 | some a3=>
 (match t.zaL a3 (zR.mk ([]:List (List GCode)))with
 | some (a4,⟨a5⟩)=>
 some ((GProg.mk a5),0)
 | none=>none)
 | none=>none)
 | none=>none)
def za6 (t:Tab) (n:Nat):GProg→Option ((List GStep) × Int)
 | ⟨a1⟩=>
 (match t.zaf 0 (zF.mk a1 0)with
 | some (a2,a3,⟨a4,a5⟩)=>
 if a3=true then
 if (decide (a5 < (a1.length:Int)))=true then
 some (([]:List GStep),2)
 else
 (match t.zcm a2 with
 | some a6=>
 if (a6 !=0)=true then
 some (([]:List GStep),2)
 else
 (match t.zdb a2 with
 | some a7=>
 some (a7,0)
 | none=>none)
 | none=>none)
 else
 some (([]:List GStep),2)
 | none=>none)
def zbt (t:Tab) (n:Nat):GProg→Option Int
 | ⟨a1⟩=>
 (match t.za6 (GProg.mk a1)with
 | some (a2,a3)=>
 some a3
 | none=>none)
def zcf (t:Tab) (n:Nat) (a1:List GStep) (a2 a3 a4 a5:Int) (a6:List (List GStep)) (a7:Int):Option (Int⊕((List GStep) × Int × Int × Int × Int × (List (List GStep)) × Int)):=
 if (decide (a3≤0))=true then
 some (.inl a2)
 else
 if (decide (0≤(a7:Int)))=true then
 (match a6[(a7:Int).toNat]? with
 | some a8=>
 (match t.zbp a8 (IntKind.wrap .i64 (a2-a4)) (IntKind.wrap .i64 (a3-1))with
 | some a9=>
 some (.inr (a1,a2,a3,(IntKind.wrap .i64 (a4+a9)),a5,a6,(IntKind.wrap .i64 (a7+1))))
 | none=>none)
 | none=>none)
 else none
def za1 (t:Tab) (n:Nat):Nat→(List GStep)→Int→Int→Int→Int→(List (List GStep))→Int→Option (Int⊕((List GStep) × Int × Int × Int × Int × (List (List GStep)) × Int × Bool))
 | 0,_,_,_,_,_,_,_=>none
 | k+1,a1,a2,a3,a4,a5,a6,a7=>
 if (decide (a7 < (a6.length:Int)))=true then
 if (decide (a4 < a2))=true then
 (match zcf t n a1 a2 a3 a4 a5 a6 a7 with
 | some (.inl a8)=>
 some (.inl a8)
 | some (.inr (a9,a10,a11,a12,a13,a14,a15))=>
 za1 t n k a9 a10 a11 a12 a13 a14 a15
 | none=>none)
 else
 some (.inr (a1,a2,a3,a4,a5,a6,a7,(decide (a4 < a2))))
 else
 some (.inr (a1,a2,a3,a4,a5,a6,a7,false))
def zb0 (t:Tab) (n:Nat) (a1:List GStep) (a2 a3 a4 a5:Int):Option (Int⊕((List GStep) × Int × Int × Int × Int)):=
 if (decide (0≤(a5:Int)))=true then
 (match a1[(a5:Int).toNat]? with
 | some ⟨a6,a7,a8,⟨a9,a10,a11,a12,a13⟩,⟨a14,a15,a16⟩,a17,a18,a19⟩=>
 (match t.zbo (zh.mk a9 a10 a11 a12 a13) a2 with
 | some a20=>
 (match t.zck (GPred.mk a14 a15 a16) a2 with
 | some a21=>
 (match t.zcN (GStep.mk a6 a7 a8 (zh.mk a9 a10 a11 a12 a13) (GPred.mk a14 a15 a16) a17 a18 a19)with
 | some a22=>
 (match za1 t n n a1 a2 a3 (IntKind.wrap .i64 ((IntKind.wrap .i64 ((IntKind.wrap .i64 ((IntKind.wrap .i64 ((IntKind.wrap .i64 ((IntKind.wrap .i64 (a4+1))+(a7.length:Int)))+(a8.length:Int)))+(a19.length:Int)))+a20))+a21)) a5 a22 0 with
 | some (.inl a23)=>
 some (.inl a23)
 | some (.inr (a24,a25,a26,a27,a28,a29,a30,a31))=>
 some (.inr (a24,a25,a26,a27,(IntKind.wrap .i64 (a28+1))))
 | none=>none)
 | none=>none)
 | none=>none)
 | none=>none)
 | none=>none)
 else none
def za2 (t:Tab) (n:Nat):Nat→(List GStep)→Int→Int→Int→Int→Option (Int⊕((List GStep) × Int × Int × Int × Int × Bool))
 | 0,_,_,_,_,_=>none
 | k+1,a1,a2,a3,a4,a5=>
 if (decide (a5 < (a1.length:Int)))=true then
 if (decide (a4 < a2))=true then
 (match zb0 t n a1 a2 a3 a4 a5 with
 | some (.inl a6)=>
 some (.inl a6)
 | some (.inr (a7,a8,a9,a10,a11))=>
 za2 t n k a7 a8 a9 a10 a11
 | none=>none)
 else
 some (.inr (a1,a2,a3,a4,a5,(decide (a4 < a2))))
 else
 some (.inr (a1,a2,a3,a4,a5,false))
def zbp (t:Tab) (n:Nat):(List GStep)→Int→Int→Option Int
 | a1,a2,a3=>
 (match za2 t n n a1 a2 a3 0 0 with
 | some (.inl a4)=>
 some a4
 | some (.inr (a5,a6,a7,a8,a9,a10))=>
 some a8
 | none=>none)
def zcA (t:Tab) (n:Nat):Nat→(List GStep)→(List GStep)→Int→Int→Int→(List ByteArray)→(List Int)→Int→Int→ByteArray→(List zh)→(List zh)→Int→(List zh)→(List GPred)→(List (List GStep))→(List GBy)→(List ByteArray)→Int→(List ByteArray)→(List Int)→Int→Int→ByteArray→(List zh)→(List zh)→Int→(List zh)→(List GPred)→(List (List GStep))→(List GBy)→(List ByteArray)→Option (Bool⊕((List GStep) × (List GStep) × Int × Int × Bool × Int × (List ByteArray) × (List Int) × Int × Int × ByteArray × (List zh) × (List zh) × Int × (List zh) × (List GPred) × (List (List GStep)) × (List GBy) × (List ByteArray) × Int × (List ByteArray) × (List Int) × Int × Int × ByteArray × (List zh) × (List zh) × Int × (List zh) × (List GPred) × (List (List GStep)) × (List GBy) × (List ByteArray)))
 | 0,_,_,_,_,_,_,_,_,_,_,_,_,_,_,_,_,_,_,_,_,_,_,_,_,_,_,_,_,_,_,_,_=>none
 | k+1,a1,a2,a3,a4,a5,a6,a7,a8,a9,a10,a11,a12,a13,a14,a15,a16,a17,a18,a19,a20,a21,a22,a23,a24,a25,a26,a27,a28,a29,a30,a31,a32=>
 if (decide (a4 < (a16.length:Int)))=true then
 if (decide (0≤(a4:Int)))=true then
 (match a16[(a4:Int).toNat]? with
 | some a33=>
 (match a30[(a4:Int).toNat]? with
 | some a34=>
 (match t.zcJ a33 a34 with
 | some a35=>
 if a35=true then
 zcA t n k a1 a2 a3 (IntKind.wrap .i64 (a4+1)) a5 a6 a7 a8 a9 a10 a11 a12 a13 a14 a15 a16 a17 a18 a19 a20 a21 a22 a23 a24 a25 a26 a27 a28 a29 a30 a31 a32
 else
 some (.inl false)
 | none=>none)
 | none=>none)
 | none=>none)
 else none
 else
 some (.inr (a1,a2,a3,a4,(decide (a4 < (a16.length:Int))),a5,a6,a7,a8,a9,a10,a11,a12,a13,a14,a15,a16,a17,a18,a19,a20,a21,a22,a23,a24,a25,a26,a27,a28,a29,a30,a31,a32))
def zcP (t:Tab) (n:Nat):Nat→(List GStep)→(List GStep)→Int→Int→Int→(List ByteArray)→(List Int)→Int→Int→ByteArray→(List zh)→(List zh)→Int→(List zh)→(List GPred)→(List (List GStep))→(List GBy)→(List ByteArray)→Int→(List ByteArray)→(List Int)→Int→Int→ByteArray→(List zh)→(List zh)→Int→(List zh)→(List GPred)→(List (List GStep))→(List GBy)→(List ByteArray)→Option (Bool⊕((List GStep) × (List GStep) × Int × Int × Bool × Int × (List ByteArray) × (List Int) × Int × Int × ByteArray × (List zh) × (List zh) × Int × (List zh) × (List GPred) × (List (List GStep)) × (List GBy) × (List ByteArray) × Int × (List ByteArray) × (List Int) × Int × Int × ByteArray × (List zh) × (List zh) × Int × (List zh) × (List GPred) × (List (List GStep)) × (List GBy) × (List ByteArray)))
 | 0,_,_,_,_,_,_,_,_,_,_,_,_,_,_,_,_,_,_,_,_,_,_,_,_,_,_,_,_,_,_,_,_=>none
 | k+1,a1,a2,a3,a4,a5,a6,a7,a8,a9,a10,a11,a12,a13,a14,a15,a16,a17,a18,a19,a20,a21,a22,a23,a24,a25,a26,a27,a28,a29,a30,a31,a32=>
 if (decide (a4 < (a17.length:Int)))=true then
 if (decide (0≤(a4:Int)))=true then
 (match a17[(a4:Int).toNat]? with
 | some ⟨a33,a34,a35,a36⟩=>
 (match a31[(a4:Int).toNat]? with
 | some ⟨a37,a38,a39,a40⟩=>
 if (a33 !=a37)=true then
 some (.inl false)
 else
 if (a34.toList==a38.toList)=true then
 if (a36==a40)=true then
 (match t.zcJ a35 a39 with
 | some a41=>
 if a41=true then
 zcP t n k a1 a2 a3 (IntKind.wrap .i64 (a4+1)) a5 a6 a7 a8 a9 a10 a11 a12 a13 a14 a15 a16 a17 a18 a19 a20 a21 a22 a23 a24 a25 a26 a27 a28 a29 a30 a31 a32
 else
 some (.inl false)
 | none=>none)
 else
 some (.inl false)
 else
 some (.inl false)
 | none=>none)
 | none=>none)
 else none
 else
 some (.inr (a1,a2,a3,a4,(decide (a4 < (a17.length:Int))),a5,a6,a7,a8,a9,a10,a11,a12,a13,a14,a15,a16,a17,a18,a19,a20,a21,a22,a23,a24,a25,a26,a27,a28,a29,a30,a31,a32))
def zdp (t:Tab) (n:Nat) (a1 a2:List GStep) (a3 a4:Int) (a5:List ByteArray) (a6:List Int) (a7 a8:Int) (a9:ByteArray) (a10 a11:List zh) (a12:Int) (a13:List zh) (a14:List GPred) (a15:List (List GStep)) (a16:List GBy) (a17:List ByteArray) (a18:Int) (a19:List ByteArray) (a20:List Int) (a21 a22:Int) (a23:ByteArray) (a24 a25:List zh) (a26:Int) (a27:List zh) (a28:List GPred) (a29:List (List GStep)) (a30:List GBy) (a31:List ByteArray):Option (Bool⊕((List GStep) × (List GStep) × Int)):=
 (match zcP t n n a1 a2 a3 0 a4 a5 a6 a7 a8 a9 a10 a11 a12 a13 a14 a15 a16 a17 a18 a19 a20 a21 a22 a23 a24 a25 a26 a27 a28 a29 a30 a31 with
 | some (.inl a32)=>
 some (.inl a32)
 | some (.inr (a33,a34,a35,a36,a37,a38,a39,a40,a41,a42,a43,a44,a45,a46,a47,a48,a49,a50,a51,a52,a53,a54,a55,a56,a57,a58,a59,a60,a61,a62,a63,a64,a65))=>
 some (.inr (a33,a34,a35))
 | none=>none)
def zcQ (t:Tab) (n:Nat) (a1 a2:List GStep) (a3 a4:Int) (a5:List ByteArray) (a6:List Int) (a7 a8:Int) (a9:ByteArray) (a10 a11:List zh) (a12:Int) (a13:List zh) (a14:List GPred) (a15:List (List GStep)) (a16:List GBy) (a17:List ByteArray) (a18:Int) (a19:List ByteArray) (a20:List Int) (a21 a22:Int) (a23:ByteArray) (a24 a25:List zh) (a26:Int) (a27:List zh) (a28:List GPred) (a29:List (List GStep)) (a30:List GBy) (a31:List ByteArray):Option (Bool⊕((List GStep) × (List GStep) × Int)):=
 (match zcA t n n a1 a2 a3 0 a4 a5 a6 a7 a8 a9 a10 a11 a12 a13 a14 a15 a16 a17 a18 a19 a20 a21 a22 a23 a24 a25 a26 a27 a28 a29 a30 a31 with
 | some (.inl a32)=>
 some (.inl a32)
 | some (.inr (a33,a34,a35,a36,a37,a38,a39,a40,a41,a42,a43,a44,a45,a46,a47,a48,a49,a50,a51,a52,a53,a54,a55,a56,a57,a58,a59,a60,a61,a62,a63,a64,a65))=>
 zdp t n a33 a34 a35 a38 a39 a40 a41 a42 a43 a44 a45 a46 a47 a48 a49 a50 a51 a52 a53 a54 a55 a56 a57 a58 a59 a60 a61 a62 a63 a64 a65
 | none=>none)
def zcR (t:Tab) (n:Nat):Nat→(List GStep)→(List GStep)→Int→Option (Bool⊕((List GStep) × (List GStep) × Int × Bool))
 | 0,_,_,_=>none
 | k+1,a1,a2,a3=>
 if (decide (a3 < (a1.length:Int)))=true then
 if (decide (0≤(a3:Int)))=true then
 (match a1[(a3:Int).toNat]? with
 | some ⟨a4,a5,a6,⟨a7,a8,a9,a10,a11⟩,⟨a12,a13,a14⟩,a15,a16,a17⟩=>
 (match a2[(a3:Int).toNat]? with
 | some ⟨a18,a19,a20,⟨a21,a22,a23,a24,a25⟩,⟨a26,a27,a28⟩,a29,a30,a31⟩=>
 if (a4 !=a18)=true then
 some (.inl false)
 else
 (match t.zbR a5 a19 with
 | some a32=>
 if a32=true then
 (match t.zb1 a6 a20 with
 | some a33=>
 if a33=true then
 (match t.zbR a17 a31 with
 | some a34=>
 if a34=true then
 (match t.zdl (zh.mk a7 a8 a9 a10 a11) (zh.mk a21 a22 a23 a24 a25)with
 | some a35=>
 if a35=true then
 (match t.zdm (GPred.mk a12 a13 a14) (GPred.mk a26 a27 a28)with
 | some a36=>
 if a36=true then
 if ((a15.length:Int) !=(a29.length:Int))=true then
 some (.inl false)
 else
 if ((a16.length:Int) !=(a30.length:Int))=true then
 some (.inl false)
 else
 (match zcQ t n a1 a2 a3 a4 a5 a6 a7 a8 a9 a10 a11 a12 a13 a14 a15 a16 a17 a18 a19 a20 a21 a22 a23 a24 a25 a26 a27 a28 a29 a30 a31 with
 | some (.inl a37)=>
 some (.inl a37)
 | some (.inr (a38,a39,a40))=>
 zcR t n k a38 a39 (IntKind.wrap .i64 (a40+1))
 | none=>none)
 else
 some (.inl false)
 | none=>none)
 else
 some (.inl false)
 | none=>none)
 else
 some (.inl false)
 | none=>none)
 else
 some (.inl false)
 | none=>none)
 else
 some (.inl false)
 | none=>none)
 | none=>none)
 | none=>none)
 else none
 else
 some (.inr (a1,a2,a3,(decide (a3 < (a1.length:Int)))))
def zcJ (t:Tab) (n:Nat):(List GStep)→(List GStep)→Option Bool
 | a1,a2=>
 if ((a1.length:Int) !=(a2.length:Int))=true then
 some false
 else
 (match zcR t n n a1 a2 0 with
 | some (.inl a3)=>
 some a3
 | some (.inr (a4,a5,a6,a7))=>
 some true
 | none=>none)
def zdH (t:Tab) (n:Nat):GProg→GProg→Option Bool
 | ⟨a1⟩,⟨a2⟩=>
 t.zay a1 a2
def zcm (t:Tab) (n:Nat):(List GStep)→Option Int
 | a1=>
 (match t.zcK a1 with
 | some a2=>
 if (decide (a2 > 400))=true then
 some 2
 else
 (match t.zaY a1 1 with
 | some a3=>
 if a3=true then
 some 0
 else
 some 2
 | none=>none)
 | none=>none)
def zdb (t:Tab) (n:Nat):(List GStep)→Option (List GStep)
 | a1=>
 t.zaW a1 1
def zaX (t:Tab) (n:Nat):Nat→Int→(List GStep)→Int→Int→(List (List GStep))→Int→Int→GStep→Int→(List ByteArray)→(List Int)→zh→GPred→(List Int)→(List GKey)→(List ByteArray)→zR→Option (Int × (List GStep) × Int × Int × (List (List GStep)) × Int × Int × Bool × GStep × Int × (List ByteArray) × (List Int) × zh × GPred × (List Int) × (List GKey) × (List ByteArray) × zR)
 | 0,_,_,_,_,_,_,_,_,_,_,_,_,_,_,_,_,_=>none
 | k+1,a1,a2,a3,a4,a5,a6,a7,⟨a8,a9,a10,⟨a11,a12,a13,a14,a15⟩,⟨a16,a17,a18⟩,a19,a20,a21⟩,a22,a23,a24,⟨a25,a26,a27,a28,a29⟩,⟨a30,a31,a32⟩,a33,a34,a35,⟨a36⟩=>
 if (decide (a7 < a6))=true then
 if (decide (0≤(a7:Int)))=true then
 (match a5[(a7:Int).toNat]? with
 | some a37=>
 (match t.zaL a37 (zR.mk a36)with
 | some (a38,⟨a39⟩)=>
 if (a33.length+([a38]:List Int).length) * 8≤140737488355328 then
 zaX t n k a1 a2 a3 a4 a5 a6 (IntKind.wrap .i64 (a7+1)) (GStep.mk a8 a9 a10 (zh.mk a11 a12 a13 a14 a15) (GPred.mk a16 a17 a18) a19 a20 a21) a22 a23 a24 (zh.mk a25 a26 a27 a28 a29) (GPred.mk a30 a31 a32) (a33++([a38]:List Int)) a34 a35 (zR.mk a39)
 else none
 | none=>none)
 | none=>none)
 else none
 else
 some (a1,a2,a3,a4,a5,a6,a7,(decide (a7 < a6)),(GStep.mk a8 a9 a10 (zh.mk a11 a12 a13 a14 a15) (GPred.mk a16 a17 a18) a19 a20 a21),a22,a23,a24,(zh.mk a25 a26 a27 a28 a29),(GPred.mk a30 a31 a32),a33,a34,a35,(zR.mk a36))
def zbg (t:Tab) (n:Nat):Int→(List GStep)→Int→Int→(List GBy)→Int→Int→Int→(List ByteArray)→(List Int)→zh→GPred→(List Int)→(List GKey)→(List ByteArray)→GKey→zR→Option (Int × (List GStep) × Int × Int × (List GBy) × Int × Int × Int × (List ByteArray) × (List Int) × zh × GPred × (List Int) × (List GKey) × (List ByteArray) × zR)
 | a1,a2,a3,a4,a5,a6,a7,a8,a9,a10,⟨a11,a12,a13,a14,a15⟩,⟨a16,a17,a18⟩,a19,a20,a21,⟨a22,a23,a24,a25⟩,⟨a26⟩=>
 if (a20.length+([(GKey.mk a22 a23 a24 a25)]:List GKey).length) * 40≤140737488355328 then
 some (a1,a2,a3,a4,a5,a6,a7,a8,a9,a10,(zh.mk a11 a12 a13 a14 a15),(GPred.mk a16 a17 a18),a19,(a20++([(GKey.mk a22 a23 a24 a25)]:List GKey)),a21,(zR.mk a26))
 else none
def zaE (t:Tab) (n:Nat):Nat→Int→(List GStep)→Int→Int→(List GBy)→Int→Int→Int→(List ByteArray)→(List Int)→zh→GPred→(List Int)→(List GKey)→(List ByteArray)→zR→Option (Int × (List GStep) × Int × Int × (List GBy) × Int × Int × Bool × Int × (List ByteArray) × (List Int) × zh × GPred × (List Int) × (List GKey) × (List ByteArray) × zR)
 | 0,_,_,_,_,_,_,_,_,_,_,_,_,_,_,_,_=>none
 | k+1,a1,a2,a3,a4,a5,a6,a7,a8,a9,a10,⟨a11,a12,a13,a14,a15⟩,⟨a16,a17,a18⟩,a19,a20,a21,⟨a22⟩=>
 if (decide (a7 < a6))=true then
 if (decide (0≤(a7:Int)))=true then
 (match a5[(a7:Int).toNat]? with
 | some ⟨a23,a24,a25,a26⟩=>
 if (a23==3)=true then
 (match t.zaL a25 (zR.mk a22)with
 | some (a27,⟨a28⟩)=>
 (match zbg t n a1 a2 a3 a4 a5 a6 a7 a8 a9 a10 (zh.mk a11 a12 a13 a14 a15) (GPred.mk a16 a17 a18) a19 a20 a21 (GKey.mk a23 a24 a27 a26) (zR.mk a28)with
 | some (a29,a30,a31,a32,a33,a34,a35,a36,a37,a38,⟨a39,a40,a41,a42,a43⟩,⟨a44,a45,a46⟩,a47,a48,a49,⟨a50⟩)=>
 zaE t n k a29 a30 a31 a32 a33 a34 (IntKind.wrap .i64 (a35+1)) a36 a37 a38 (zh.mk a39 a40 a41 a42 a43) (GPred.mk a44 a45 a46) a47 a48 a49 (zR.mk a50)
 | none=>none)
 | none=>none)
 else
 (match zbg t n a1 a2 a3 a4 a5 a6 a7 a8 a9 a10 (zh.mk a11 a12 a13 a14 a15) (GPred.mk a16 a17 a18) a19 a20 a21 (GKey.mk a23 a24 0 a26) (zR.mk a22)with
 | some (a51,a52,a53,a54,a55,a56,a57,a58,a59,a60,⟨a61,a62,a63,a64,a65⟩,⟨a66,a67,a68⟩,a69,a70,a71,⟨a72⟩)=>
 zaE t n k a51 a52 a53 a54 a55 a56 (IntKind.wrap .i64 (a57+1)) a58 a59 a60 (zh.mk a61 a62 a63 a64 a65) (GPred.mk a66 a67 a68) a69 a70 a71 (zR.mk a72)
 | none=>none)
 | none=>none)
 else none
 else
 some (a1,a2,a3,a4,a5,a6,a7,(decide (a7 < a6)),a8,a9,a10,(zh.mk a11 a12 a13 a14 a15),(GPred.mk a16 a17 a18),a19,a20,a21,(zR.mk a22))
def zb9 (t:Tab) (n:Nat):Int→(List GStep)→Int→Int→GCode→zR→Option (Int × (List GStep) × Int × Int × zR)
 | a1,a2,a3,a4,⟨a5,a6,a7,⟨a8,a9,a10,a11,a12⟩,⟨a13,a14,a15⟩,a16,a17,a18⟩,⟨a19⟩=>
 if (decide (0≤(a1:Int)))=true then
 (match a19[(a1:Int).toNat]? with
 | some a20=>
 if (a20.length+([(GCode.mk a5 a6 a7 (zh.mk a8 a9 a10 a11 a12) (GPred.mk a13 a14 a15) a16 a17 a18)]:List GCode).length) * 264≤140737488355328 then
 some (a1,a2,a3,a4,(zR.mk (a19.set (a1:Int).toNat (a20++([(GCode.mk a5 a6 a7 (zh.mk a8 a9 a10 a11 a12) (GPred.mk a13 a14 a15) a16 a17 a18)]:List GCode)))))
 else none
 | none=>none)
 else none
def zcs (t:Tab) (n:Nat):Int→(List GStep)→Int→Int→GStep→Int→(List ByteArray)→(List Int)→zh→GPred→(List Int)→(List GKey)→(List ByteArray)→zR→Option (Int × (List GStep) × Int × Int × zR)
 | a1,a2,a3,a4,⟨a5,a6,a7,⟨a8,a9,a10,a11,a12⟩,⟨a13,a14,a15⟩,a16,a17,a18⟩,a19,a20,a21,⟨a22,a23,a24,a25,a26⟩,⟨a27,a28,a29⟩,a30,a31,a32,⟨a33⟩=>
 (match zaE t n n a1 a2 a3 a4 a17 (a17.length:Int) 0 a19 a20 a21 (zh.mk a22 a23 a24 a25 a26) (GPred.mk a27 a28 a29) a30 a31 a32 (zR.mk a33)with
 | some (a34,a35,a36,a37,a38,a39,a40,a41,a42,a43,a44,⟨a45,a46,a47,a48,a49⟩,⟨a50,a51,a52⟩,a53,a54,a55,⟨a56⟩)=>
 zb9 t n a34 a35 a36 a37 (GCode.mk a42 a43 a44 (zh.mk a45 a46 a47 a48 a49) (GPred.mk a50 a51 a52) a53 a54 a55) (zR.mk a56)
 | none=>none)
def zaH (t:Tab) (n:Nat):Nat→Int→(List GStep)→Int→Int→zR→Option (Int × (List GStep) × Int × Int × Bool × zR)
 | 0,_,_,_,_,_=>none
 | k+1,a1,a2,a3,a4,⟨a5⟩=>
 if (decide (a4 < a3))=true then
 if (decide (0≤(a4:Int)))=true then
 (match a2[(a4:Int).toNat]? with
 | some ⟨a6,a7,a8,⟨a9,a10,a11,a12,a13⟩,⟨a14,a15,a16⟩,a17,a18,a19⟩=>
 (match zaX t n n a1 a2 a3 a4 a17 (a17.length:Int) 0 (GStep.mk a6 a7 a8 (zh.mk a9 a10 a11 a12 a13) (GPred.mk a14 a15 a16) a17 a18 a19) a6 a7 a8 (zh.mk a9 a10 a11 a12 a13) (GPred.mk a14 a15 a16) ([]:List Int) ([]:List GKey) a19 (zR.mk a5)with
 | some (a20,a21,a22,a23,a24,a25,a26,a27,⟨a28,a29,a30,⟨a31,a32,a33,a34,a35⟩,⟨a36,a37,a38⟩,a39,a40,a41⟩,a42,a43,a44,⟨a45,a46,a47,a48,a49⟩,⟨a50,a51,a52⟩,a53,a54,a55,⟨a56⟩)=>
 (match zcs t n a20 a21 a22 a23 (GStep.mk a28 a29 a30 (zh.mk a31 a32 a33 a34 a35) (GPred.mk a36 a37 a38) a39 a40 a41) a42 a43 a44 (zh.mk a45 a46 a47 a48 a49) (GPred.mk a50 a51 a52) a53 a54 a55 (zR.mk a56)with
 | some (a57,a58,a59,a60,⟨a61⟩)=>
 zaH t n k a57 a58 a59 (IntKind.wrap .i64 (a60+1)) (zR.mk a61)
 | none=>none)
 | none=>none)
 | none=>none)
 else none
 else
 some (a1,a2,a3,a4,(decide (a4 < a3)),(zR.mk a5))
def zaL (t:Tab) (n:Nat):(List GStep)→zR→Option (Int × zR)
 | a1,⟨a2⟩=>
 if (a2.length+([([]:List GCode)]:List (List GCode)).length) * 24≤140737488355328 then
 (match zaH t n n (a2.length:Int) a1 (a1.length:Int) 0 (zR.mk (a2++([([]:List GCode)]:List (List GCode))))with
 | some (a3,a4,a5,a6,a7,⟨a8⟩)=>
 some (a3,(zR.mk a8))
 | none=>none)
 else none
def zam (t:Tab) (n:Nat):Nat→(List GStep)→(List GCode)→Int→Int→(List Int)→Int→Int→GCode→Int→(List ByteArray)→(List Int)→zh→GPred→(List (List GStep))→(List GBy)→(List ByteArray)→zF→Option (((List GStep) × Bool × zF)⊕((List GStep) × (List GCode) × Int × Int × (List Int) × Int × Int × Bool × GCode × Int × (List ByteArray) × (List Int) × zh × GPred × (List (List GStep)) × (List GBy) × (List ByteArray) × zF))
 | 0,_,_,_,_,_,_,_,_,_,_,_,_,_,_,_,_,_=>none
 | k+1,a1,a2,a3,a4,a5,a6,a7,⟨a8,a9,a10,⟨a11,a12,a13,a14,a15⟩,⟨a16,a17,a18⟩,a19,a20,a21⟩,a22,a23,a24,⟨a25,a26,a27,a28,a29⟩,⟨a30,a31,a32⟩,a33,a34,a35,⟨a36,a37⟩=>
 if (decide (a7 < a6))=true then
 if (decide (0≤(a7:Int)))=true then
 (match a5[(a7:Int).toNat]? with
 | some a38=>
 (match t.zaf a38 (zF.mk a36 a37)with
 | some (a39,a40,⟨a41,a42⟩)=>
 if a40=true then
 if (a33.length+([a39]:List (List GStep)).length) * 24≤140737488355328 then
 zam t n k a1 a2 a3 a4 a5 a6 (IntKind.wrap .i64 (a7+1)) (GCode.mk a8 a9 a10 (zh.mk a11 a12 a13 a14 a15) (GPred.mk a16 a17 a18) a19 a20 a21) a22 a23 a24 (zh.mk a25 a26 a27 a28 a29) (GPred.mk a30 a31 a32) (a33++([a39]:List (List GStep))) a34 a35 (zF.mk a41 a42)
 else none
 else
 some (.inl (([]:List GStep),false,(zF.mk a41 a42)))
 | none=>none)
 | none=>none)
 else none
 else
 some (.inr (a1,a2,a3,a4,a5,a6,a7,(decide (a7 < a6)),(GCode.mk a8 a9 a10 (zh.mk a11 a12 a13 a14 a15) (GPred.mk a16 a17 a18) a19 a20 a21),a22,a23,a24,(zh.mk a25 a26 a27 a28 a29),(GPred.mk a30 a31 a32),a33,a34,a35,(zF.mk a36 a37)))
def zaI (t:Tab) (n:Nat):(List GStep)→(List GCode)→Int→Int→(List GKey)→Int→Int→Int→(List ByteArray)→(List Int)→zh→GPred→(List (List GStep))→(List GBy)→(List ByteArray)→GBy→zF→Option ((List GStep) × (List GCode) × Int × Int × (List GKey) × Int × Int × Int × (List ByteArray) × (List Int) × zh × GPred × (List (List GStep)) × (List GBy) × (List ByteArray) × zF)
 | a1,a2,a3,a4,a5,a6,a7,a8,a9,a10,⟨a11,a12,a13,a14,a15⟩,⟨a16,a17,a18⟩,a19,a20,a21,⟨a22,a23,a24,a25⟩,⟨a26,a27⟩=>
 if (a20.length+([(GBy.mk a22 a23 a24 a25)]:List GBy).length) * 56≤140737488355328 then
 some (a1,a2,a3,a4,a5,a6,a7,a8,a9,a10,(zh.mk a11 a12 a13 a14 a15),(GPred.mk a16 a17 a18),a19,(a20++([(GBy.mk a22 a23 a24 a25)]:List GBy)),a21,(zF.mk a26 a27))
 else none
def zU (t:Tab) (n:Nat):Nat→(List GStep)→(List GCode)→Int→Int→(List GKey)→Int→Int→Int→(List ByteArray)→(List Int)→zh→GPred→(List (List GStep))→(List GBy)→(List ByteArray)→zF→Option (((List GStep) × Bool × zF)⊕((List GStep) × (List GCode) × Int × Int × (List GKey) × Int × Int × Bool × Int × (List ByteArray) × (List Int) × zh × GPred × (List (List GStep)) × (List GBy) × (List ByteArray) × zF))
 | 0,_,_,_,_,_,_,_,_,_,_,_,_,_,_,_,_=>none
 | k+1,a1,a2,a3,a4,a5,a6,a7,a8,a9,a10,⟨a11,a12,a13,a14,a15⟩,⟨a16,a17,a18⟩,a19,a20,a21,⟨a22,a23⟩=>
 if (decide (a7 < a6))=true then
 if (decide (0≤(a7:Int)))=true then
 (match a5[(a7:Int).toNat]? with
 | some ⟨a24,a25,a26,a27⟩=>
 if (a24==3)=true then
 (match t.zaf a26 (zF.mk a22 a23)with
 | some (a28,a29,⟨a30,a31⟩)=>
 if a29=true then
 (match zaI t n a1 a2 a3 a4 a5 a6 a7 a8 a9 a10 (zh.mk a11 a12 a13 a14 a15) (GPred.mk a16 a17 a18) a19 a20 a21 (GBy.mk a24 a25 a28 a27) (zF.mk a30 a31)with
 | some (a32,a33,a34,a35,a36,a37,a38,a39,a40,a41,⟨a42,a43,a44,a45,a46⟩,⟨a47,a48,a49⟩,a50,a51,a52,⟨a53,a54⟩)=>
 zU t n k a32 a33 a34 a35 a36 a37 (IntKind.wrap .i64 (a38+1)) a39 a40 a41 (zh.mk a42 a43 a44 a45 a46) (GPred.mk a47 a48 a49) a50 a51 a52 (zF.mk a53 a54)
 | none=>none)
 else
 some (.inl (([]:List GStep),false,(zF.mk a30 a31)))
 | none=>none)
 else
 if (a26 !=0)=true then
 some (.inl (([]:List GStep),false,(zF.mk a22 a23)))
 else
 (match zaI t n a1 a2 a3 a4 a5 a6 a7 a8 a9 a10 (zh.mk a11 a12 a13 a14 a15) (GPred.mk a16 a17 a18) a19 a20 a21 (GBy.mk a24 a25 ([]:List GStep) a27) (zF.mk a22 a23)with
 | some (a55,a56,a57,a58,a59,a60,a61,a62,a63,a64,⟨a65,a66,a67,a68,a69⟩,⟨a70,a71,a72⟩,a73,a74,a75,⟨a76,a77⟩)=>
 zU t n k a55 a56 a57 a58 a59 a60 (IntKind.wrap .i64 (a61+1)) a62 a63 a64 (zh.mk a65 a66 a67 a68 a69) (GPred.mk a70 a71 a72) a73 a74 a75 (zF.mk a76 a77)
 | none=>none)
 | none=>none)
 else none
 else
 some (.inr (a1,a2,a3,a4,a5,a6,a7,(decide (a7 < a6)),a8,a9,a10,(zh.mk a11 a12 a13 a14 a15),(GPred.mk a16 a17 a18),a19,a20,a21,(zF.mk a22 a23)))
def za7 (t:Tab) (n:Nat):(List GStep)→(List GCode)→Int→Int→Int→(List ByteArray)→(List Int)→zh→GPred→(List (List GStep))→(List GBy)→(List ByteArray)→zF→Option ((List GStep) × (List GCode) × Int × Int × zF)
 | a1,a2,a3,a4,a5,a6,a7,⟨a8,a9,a10,a11,a12⟩,⟨a13,a14,a15⟩,a16,a17,a18,⟨a19,a20⟩=>
 if (a1.length+([(GStep.mk a5 a6 a7 (zh.mk a8 a9 a10 a11 a12) (GPred.mk a13 a14 a15) a16 a17 a18)]:List GStep).length) * 264≤140737488355328 then
 some ((a1++([(GStep.mk a5 a6 a7 (zh.mk a8 a9 a10 a11 a12) (GPred.mk a13 a14 a15) a16 a17 a18)]:List GStep)),a2,a3,a4,(zF.mk a19 a20))
 else none
def zaR (t:Tab) (n:Nat):(List GStep)→(List GCode)→Int→Int→GCode→Int→(List ByteArray)→(List Int)→zh→GPred→(List (List GStep))→(List GBy)→(List ByteArray)→zF→Option (((List GStep) × Bool × zF)⊕((List GStep) × (List GCode) × Int × Int × zF))
 | a1,a2,a3,a4,⟨a5,a6,a7,⟨a8,a9,a10,a11,a12⟩,⟨a13,a14,a15⟩,a16,a17,a18⟩,a19,a20,a21,⟨a22,a23,a24,a25,a26⟩,⟨a27,a28,a29⟩,a30,a31,a32,⟨a33,a34⟩=>
 (match zU t n n a1 a2 a3 a4 a17 (a17.length:Int) 0 a19 a20 a21 (zh.mk a22 a23 a24 a25 a26) (GPred.mk a27 a28 a29) a30 a31 a32 (zF.mk a33 a34)with
 | some (.inl (a35,a36,⟨a37,a38⟩))=>
 some (.inl (a35,a36,(zF.mk a37 a38)))
 | some (.inr (a39,a40,a41,a42,a43,a44,a45,a46,a47,a48,a49,⟨a50,a51,a52,a53,a54⟩,⟨a55,a56,a57⟩,a58,a59,a60,⟨a61,a62⟩))=>
 (match za7 t n a39 a40 a41 a42 a47 a48 a49 (zh.mk a50 a51 a52 a53 a54) (GPred.mk a55 a56 a57) a58 a59 a60 (zF.mk a61 a62)with
 | some (a63,a64,a65,a66,⟨a67,a68⟩)=>
 some (.inr (a63,a64,a65,a66,(zF.mk a67 a68)))
 | none=>none)
 | none=>none)
def zan (t:Tab) (n:Nat):Nat→(List GStep)→(List GCode)→Int→Int→zF→Option (((List GStep) × Bool × zF)⊕((List GStep) × (List GCode) × Int × Int × Bool × zF))
 | 0,_,_,_,_,_=>none
 | k+1,a1,a2,a3,a4,⟨a5,a6⟩=>
 if (decide (a4 < a3))=true then
 if (decide (0≤(a4:Int)))=true then
 (match a2[(a4:Int).toNat]? with
 | some ⟨a7,a8,a9,⟨a10,a11,a12,a13,a14⟩,⟨a15,a16,a17⟩,a18,a19,a20⟩=>
 (match zam t n n a1 a2 a3 a4 a18 (a18.length:Int) 0 (GCode.mk a7 a8 a9 (zh.mk a10 a11 a12 a13 a14) (GPred.mk a15 a16 a17) a18 a19 a20) a7 a8 a9 (zh.mk a10 a11 a12 a13 a14) (GPred.mk a15 a16 a17) ([]:List (List GStep)) ([]:List GBy) a20 (zF.mk a5 a6)with
 | some (.inl (a21,a22,⟨a23,a24⟩))=>
 some (.inl (a21,a22,(zF.mk a23 a24)))
 | some (.inr (a25,a26,a27,a28,a29,a30,a31,a32,⟨a33,a34,a35,⟨a36,a37,a38,a39,a40⟩,⟨a41,a42,a43⟩,a44,a45,a46⟩,a47,a48,a49,⟨a50,a51,a52,a53,a54⟩,⟨a55,a56,a57⟩,a58,a59,a60,⟨a61,a62⟩))=>
 (match zaR t n a25 a26 a27 a28 (GCode.mk a33 a34 a35 (zh.mk a36 a37 a38 a39 a40) (GPred.mk a41 a42 a43) a44 a45 a46) a47 a48 a49 (zh.mk a50 a51 a52 a53 a54) (GPred.mk a55 a56 a57) a58 a59 a60 (zF.mk a61 a62)with
 | some (.inl (a63,a64,⟨a65,a66⟩))=>
 some (.inl (a63,a64,(zF.mk a65 a66)))
 | some (.inr (a67,a68,a69,a70,⟨a71,a72⟩))=>
 zan t n k a67 a68 a69 (IntKind.wrap .i64 (a70+1)) (zF.mk a71 a72)
 | none=>none)
 | none=>none)
 | none=>none)
 else none
 else
 some (.inr (a1,a2,a3,a4,(decide (a4 < a3)),(zF.mk a5 a6)))
def zaZ (t:Tab) (n:Nat):Int→zF→Option ((List GStep) × Bool × zF)
 | a1,⟨a2,a3⟩=>
 if (decide (0≤(a1:Int)))=true then
 (match a2[(a1:Int).toNat]? with
 | some a4=>
 (match zan t n n ([]:List GStep) a4 (a4.length:Int) 0 (zF.mk a2 (IntKind.wrap .i64 (a3+1)))with
 | some (.inl (a5,a6,⟨a7,a8⟩))=>
 some (a5,a6,(zF.mk a7 a8))
 | some (.inr (a9,a10,a11,a12,a13,⟨a14,a15⟩))=>
 some (a9,true,(zF.mk a14 a15))
 | none=>none)
 | none=>none)
 else none
def zaf (t:Tab) (n:Nat):Int→zF→Option ((List GStep) × Bool × zF)
 | a1,⟨a2,a3⟩=>
 if (a1 !=a3)=true then
 some (([]:List GStep),false,(zF.mk a2 a3))
 else
 if (decide (a1≥(a2.length:Int)))=true then
 some (([]:List GStep),false,(zF.mk a2 a3))
 else
 (match zaZ t n a1 (zF.mk a2 a3)with
 | some (a4,a5,⟨a6,a7⟩)=>
 some (a4,a5,(zF.mk a6 a7))
 | none=>none)
def zct (t:Tab) (n:Nat) (a1 a2 a3 a4 a5:Int) (a6:ByteArray) (a7 a8:List zh):Option (Int × Int × Int × Int × Int × ByteArray × (List zh) × (List zh)):=
 if (decide (0≤(a3:Int)))=true then
 (match a7[(a3:Int).toNat]? with
 | some ⟨a9,a10,a11,a12,a13⟩=>
 (match t.zbo (zh.mk a9 a10 a11 a12 a13) (IntKind.wrap .i64 (a1-a2))with
 | some a14=>
 some (a1,(IntKind.wrap .i64 (a2+a14)),(IntKind.wrap .i64 (a3+1)),a4,a5,a6,a7,a8)
 | none=>none)
 | none=>none)
 else none
def zbu (t:Tab) (n:Nat):Nat→Int→Int→Int→Int→Int→ByteArray→(List zh)→(List zh)→Option (Int × Int × Int × Bool × Int × Int × ByteArray × (List zh) × (List zh))
 | 0,_,_,_,_,_,_,_,_=>none
 | k+1,a1,a2,a3,a4,a5,a6,a7,a8=>
 if (decide (a3 < (a7.length:Int)))=true then
 if (decide (a2 < a1))=true then
 (match zct t n a1 a2 a3 a4 a5 a6 a7 a8 with
 | some (a9,a10,a11,a12,a13,a14,a15,a16)=>
 zbu t n k a9 a10 a11 a12 a13 a14 a15 a16
 | none=>none)
 else
 some (a1,a2,a3,(decide (a2 < a1)),a4,a5,a6,a7,a8)
 else
 some (a1,a2,a3,false,a4,a5,a6,a7,a8)
def zcu (t:Tab) (n:Nat) (a1 a2 a3 a4 a5:Int) (a6:ByteArray) (a7 a8:List zh):Option (Int × Int × Int × Int × Int × ByteArray × (List zh) × (List zh)):=
 if (decide (0≤(a3:Int)))=true then
 (match a8[(a3:Int).toNat]? with
 | some ⟨a9,a10,a11,a12,a13⟩=>
 (match t.zbo (zh.mk a9 a10 a11 a12 a13) (IntKind.wrap .i64 (a1-a2))with
 | some a14=>
 some (a1,(IntKind.wrap .i64 (a2+a14)),(IntKind.wrap .i64 (a3+1)),a4,a5,a6,a7,a8)
 | none=>none)
 | none=>none)
 else none
def zbv (t:Tab) (n:Nat):Nat→Int→Int→Int→Int→Int→ByteArray→(List zh)→(List zh)→Option (Int × Int × Int × Bool × Int × Int × ByteArray × (List zh) × (List zh))
 | 0,_,_,_,_,_,_,_,_=>none
 | k+1,a1,a2,a3,a4,a5,a6,a7,a8=>
 if (decide (a3 < (a8.length:Int)))=true then
 if (decide (a2 < a1))=true then
 (match zcu t n a1 a2 a3 a4 a5 a6 a7 a8 with
 | some (a9,a10,a11,a12,a13,a14,a15,a16)=>
 zbv t n k a9 a10 a11 a12 a13 a14 a15 a16
 | none=>none)
 else
 some (a1,a2,a3,(decide (a2 < a1)),a4,a5,a6,a7,a8)
 else
 some (a1,a2,a3,false,a4,a5,a6,a7,a8)
def zdh (t:Tab) (n:Nat) (a1 a2 a3:Int) (a4:ByteArray) (a5 a6:List zh):Option Int:=
 (match quoI .i64 (a4.size:Int) 20 with
 | some a7=>
 some (IntKind.wrap .i64 (a1+a7))
 | none=>none)
def zdi (t:Tab) (n:Nat) (a1 a2 a3 a4:Int) (a5:ByteArray) (a6 a7:List zh):Option Int:=
 (match zbv t n n a1 a2 0 a3 a4 a5 a6 a7 with
 | some (a8,a9,a10,a11,a12,a13,a14,a15,a16)=>
 zdh t n a9 a12 a13 a14 a15 a16
 | none=>none)
def zbo (t:Tab) (n:Nat):zh→Int→Option Int
 | ⟨a1,a2,a3,a4,a5⟩,a6=>
 (match zbu t n n a6 1 0 a1 a2 a3 a4 a5 with
 | some (a7,a8,a9,a10,a11,a12,a13,a14,a15)=>
 zdi t n a7 a8 a11 a12 a13 a14 a15
 | none=>none)
def zcv (t:Tab) (n:Nat) (a1 a2 a3 a4:Int) (a5:List zh) (a6:List GPred):Option (Int × Int × Int × Int × (List zh) × (List GPred)):=
 if (decide (0≤(a3:Int)))=true then
 (match a6[(a3:Int).toNat]? with
 | some ⟨a7,a8,a9⟩=>
 (match t.zck (GPred.mk a7 a8 a9) (IntKind.wrap .i64 (a1-a2))with
 | some a10=>
 some (a1,(IntKind.wrap .i64 (a2+a10)),(IntKind.wrap .i64 (a3+1)),a4,a5,a6)
 | none=>none)
 | none=>none)
 else none
def zbw (t:Tab) (n:Nat):Nat→Int→Int→Int→Int→(List zh)→(List GPred)→Option (Int × Int × Int × Bool × Int × (List zh) × (List GPred))
 | 0,_,_,_,_,_,_=>none
 | k+1,a1,a2,a3,a4,a5,a6=>
 if (decide (a3 < (a6.length:Int)))=true then
 if (decide (a2 < a1))=true then
 (match zcv t n a1 a2 a3 a4 a5 a6 with
 | some (a7,a8,a9,a10,a11,a12)=>
 zbw t n k a7 a8 a9 a10 a11 a12
 | none=>none)
 else
 some (a1,a2,a3,(decide (a2 < a1)),a4,a5,a6)
 else
 some (a1,a2,a3,false,a4,a5,a6)
def zck (t:Tab) (n:Nat):GPred→Int→Option Int
 | ⟨a1,a2,a3⟩,a4=>
 (match t.zc5 a2 a4 with
 | some a5=>
 (match zbw t n n a4 (IntKind.wrap .i64 (1+a5)) 0 a1 a2 a3 with
 | some (a6,a7,a8,a9,a10,a11,a12)=>
 some a7
 | none=>none)
 | none=>none)
def zbh (t:Tab) (n:Nat) (a1:List (List GStep)) (a2:Int) (a3:Bool) (a4:Int) (a5:List ByteArray) (a6:List Int) (a7 a8:Int) (a9:ByteArray) (a10 a11:List zh) (a12:Int) (a13:List zh) (a14:List GPred) (a15:List (List GStep)) (a16:List GBy) (a17:List ByteArray):Option ((List (List GStep)) × Int × Int × (List ByteArray) × (List Int) × Int × Int × ByteArray × (List zh) × (List zh) × Int × (List zh) × (List GPred) × (List (List GStep)) × (List GBy) × (List ByteArray)):=
 if a3=true then
 if (decide (0≤(a2:Int)))=true then
 (match a16[(a2:Int).toNat]? with
 | some ⟨a18,a19,a20,a21⟩=>
 if (a1.length+([a20]:List (List GStep)).length) * 24≤140737488355328 then
 some ((a1++([a20]:List (List GStep))),a2,a4,a5,a6,a7,a8,a9,a10,a11,a12,a13,a14,a15,a16,a17)
 else none
 | none=>none)
 else none
 else
 some (a1,a2,a4,a5,a6,a7,a8,a9,a10,a11,a12,a13,a14,a15,a16,a17)
def zbi (t:Tab) (n:Nat):Nat→(List (List GStep))→Int→Int→(List ByteArray)→(List Int)→Int→Int→ByteArray→(List zh)→(List zh)→Int→(List zh)→(List GPred)→(List (List GStep))→(List GBy)→(List ByteArray)→Option ((List (List GStep)) × Int × Bool × Int × (List ByteArray) × (List Int) × Int × Int × ByteArray × (List zh) × (List zh) × Int × (List zh) × (List GPred) × (List (List GStep)) × (List GBy) × (List ByteArray))
 | 0,_,_,_,_,_,_,_,_,_,_,_,_,_,_,_,_=>none
 | k+1,a1,a2,a3,a4,a5,a6,a7,a8,a9,a10,a11,a12,a13,a14,a15,a16=>
 if (decide (a2 < (a15.length:Int)))=true then
 if (decide (0≤(a2:Int)))=true then
 (match a15[(a2:Int).toNat]? with
 | some ⟨a17,a18,a19,a20⟩=>
 if (a17==3)=true then
 (match zbh t n a1 a2 true a3 a4 a5 a6 a7 a8 a9 a10 a11 a12 a13 a14 a15 a16 with
 | some (a21,a22,a23,a24,a25,a26,a27,a28,a29,a30,a31,a32,a33,a34,a35,a36)=>
 zbi t n k a21 (IntKind.wrap .i64 (a22+1)) a23 a24 a25 a26 a27 a28 a29 a30 a31 a32 a33 a34 a35 a36
 | none=>none)
 else
 (match zbh t n a1 a2 (decide ((a19.length:Int) > 0)) a3 a4 a5 a6 a7 a8 a9 a10 a11 a12 a13 a14 a15 a16 with
 | some (a37,a38,a39,a40,a41,a42,a43,a44,a45,a46,a47,a48,a49,a50,a51,a52)=>
 zbi t n k a37 (IntKind.wrap .i64 (a38+1)) a39 a40 a41 a42 a43 a44 a45 a46 a47 a48 a49 a50 a51 a52
 | none=>none)
 | none=>none)
 else none
 else
 some (a1,a2,(decide (a2 < (a15.length:Int))),a3,a4,a5,a6,a7,a8,a9,a10,a11,a12,a13,a14,a15,a16)
def zcN (t:Tab) (n:Nat):GStep→Option (List (List GStep))
 | ⟨a1,a2,a3,⟨a4,a5,a6,a7,a8⟩,⟨a9,a10,a11⟩,a12,a13,a14⟩=>
 if (([]:List (List GStep)).length+a12.length) * 24≤140737488355328 then
 (match zbi t n n (([]:List (List GStep))++a12) 0 a1 a2 a3 a4 a5 a6 a7 a8 a9 a10 a11 a12 a13 a14 with
 | some (a15,a16,a17,a18,a19,a20,a21,a22,a23,a24,a25,a26,a27,a28,a29,a30,a31)=>
 some a15
 | none=>none)
 else none
def zbj (t:Tab) (n:Nat):Nat→(List ByteArray)→(List ByteArray)→Int→Option (Bool⊕((List ByteArray) × (List ByteArray) × Int × Bool))
 | 0,_,_,_=>none
 | k+1,a1,a2,a3=>
 if (decide (a3 < (a1.length:Int)))=true then
 if (decide (0≤(a3:Int)))=true then
 (match a1[(a3:Int).toNat]? with
 | some a4=>
 (match a2[(a3:Int).toNat]? with
 | some a5=>
 if (a4.toList==a5.toList)=true then
 zbj t n k a1 a2 (IntKind.wrap .i64 (a3+1))
 else
 some (.inl false)
 | none=>none)
 | none=>none)
 else none
 else
 some (.inr (a1,a2,a3,(decide (a3 < (a1.length:Int)))))
def zbR (t:Tab) (n:Nat):(List ByteArray)→(List ByteArray)→Option Bool
 | a1,a2=>
 if ((a1.length:Int) !=(a2.length:Int))=true then
 some false
 else
 (match zbj t n n a1 a2 0 with
 | some (.inl a3)=>
 some a3
 | some (.inr (a4,a5,a6,a7))=>
 some true
 | none=>none)
def za3 (t:Tab) (n:Nat):Nat→(List Int)→(List Int)→Int→Option (Bool⊕((List Int) × (List Int) × Int × Bool))
 | 0,_,_,_=>none
 | k+1,a1,a2,a3=>
 if (decide (a3 < (a1.length:Int)))=true then
 if (decide (0≤(a3:Int)))=true then
 (match a1[(a3:Int).toNat]? with
 | some a4=>
 (match a2[(a3:Int).toNat]? with
 | some a5=>
 if (a4 !=a5)=true then
 some (.inl false)
 else
 za3 t n k a1 a2 (IntKind.wrap .i64 (a3+1))
 | none=>none)
 | none=>none)
 else none
 else
 some (.inr (a1,a2,a3,(decide (a3 < (a1.length:Int)))))
def zb1 (t:Tab) (n:Nat):(List Int)→(List Int)→Option Bool
 | a1,a2=>
 if ((a1.length:Int) !=(a2.length:Int))=true then
 some false
 else
 (match za3 t n n a1 a2 0 with
 | some (.inl a3)=>
 some a3
 | some (.inr (a4,a5,a6,a7))=>
 some true
 | none=>none)
def zdl (t:Tab) (n:Nat):zh→zh→Option Bool
 | ⟨a1,a2,a3,a4,a5⟩,⟨a6,a7,a8,a9,a10⟩=>
 (match t.zcg (zh.mk a1 a2 a3 a4 a5) (zh.mk a6 a7 a8 a9 a10) 1 with
 | some a11=>
 some (a11==0)
 | none=>none)
def zcS (t:Tab) (n:Nat):Nat→Int→Int→(List zh)→(List GPred)→Int→(List zh)→(List GPred)→Option (Bool⊕(Int × Bool × Int × (List zh) × (List GPred) × Int × (List zh) × (List GPred)))
 | 0,_,_,_,_,_,_,_=>none
 | k+1,a1,a2,a3,a4,a5,a6,a7=>
 if (decide (a1 < (a4.length:Int)))=true then
 if (decide (0≤(a1:Int)))=true then
 (match a4[(a1:Int).toNat]? with
 | some ⟨a8,a9,a10⟩=>
 (match a7[(a1:Int).toNat]? with
 | some ⟨a11,a12,a13⟩=>
 (match t.zdm (GPred.mk a8 a9 a10) (GPred.mk a11 a12 a13)with
 | some a14=>
 if a14=true then
 zcS t n k (IntKind.wrap .i64 (a1+1)) a2 a3 a4 a5 a6 a7
 else
 some (.inl false)
 | none=>none)
 | none=>none)
 | none=>none)
 else none
 else
 some (.inr (a1,(decide (a1 < (a4.length:Int))),a2,a3,a4,a5,a6,a7))
def zdI (t:Tab) (n:Nat) (a1:Int) (a2:List zh) (a3:List GPred) (a4:Int) (a5:List zh) (a6:List GPred):Option Bool:=
 (match zcS t n n 0 a1 a2 a3 a4 a5 a6 with
 | some (.inl a7)=>
 some a7
 | some (.inr (a8,a9,a10,a11,a12,a13,a14,a15))=>
 some true
 | none=>none)
def zdm (t:Tab) (n:Nat):GPred→GPred→Option Bool
 | ⟨a1,a2,a3⟩,⟨a4,a5,a6⟩=>
 if (a1 !=a4)=true then
 some false
 else
 (match t.zcU a2 a5 with
 | some a7=>
 if a7=true then
 if ((a3.length:Int) !=(a6.length:Int))=true then
 some false
 else
 zdI t n a1 a2 a3 a4 a5 a6
 else
 some false
 | none=>none)
def zak (t:Tab) (n:Nat):Nat→(List (List GCode))→(List (List GCode))→Int→Int→Option (Bool⊕((List (List GCode)) × (List (List GCode)) × Int × Int × Bool))
 | 0,_,_,_,_=>none
 | k+1,a1,a2,a3,a4=>
 if (decide (a4 < a3))=true then
 if (decide (0≤(a4:Int)))=true then
 (match a2[(a4:Int).toNat]? with
 | some a5=>
 (match a1[(a4:Int).toNat]? with
 | some a6=>
 (match t.zc6 a5 a6 with
 | some a7=>
 if a7=true then
 zak t n k a1 a2 a3 (IntKind.wrap .i64 (a4+1))
 else
 some (.inl false)
 | none=>none)
 | none=>none)
 | none=>none)
 else none
 else
 some (.inr (a1,a2,a3,a4,(decide (a4 < a3))))
def zay (t:Tab) (n:Nat):(List (List GCode))→(List (List GCode))→Option Bool
 | a1,a2=>
 if ((a1.length:Int) !=(a2.length:Int))=true then
 some false
 else
 (match zak t n n a2 a1 (a1.length:Int) 0 with
 | some (.inl a3)=>
 some a3
 | some (.inr (a4,a5,a6,a7,a8))=>
 some true
 | none=>none)
def zcK (t:Tab) (n:Nat):(List GStep)→Option Int
 | a1=>
 t.zbV a1 401 1
def zaY (t:Tab) (n:Nat):(List GStep)→Int→Option Bool
 | a1,a2=>
 if (decide (a2≤11))=true then
 (match t.zK a1 a2 with
 | some a3=>
 some (!a3)
 | none=>none)
 else
 some false
def zbT (t:Tab) (n:Nat):Nat→Int→(List GStep)→(List GStep)→Int→Int→(List GBy)→Int→Int→Int→(List ByteArray)→(List Int)→Int→Int→ByteArray→(List zh)→(List zh)→Int→(List zh)→(List GPred)→(List (List GStep))→(List GBy)→(List ByteArray)→Option (Int × (List GStep) × (List GStep) × Int × Int × (List GBy) × Int × Int × Bool × Int × (List ByteArray) × (List Int) × Int × Int × ByteArray × (List zh) × (List zh) × Int × (List zh) × (List GPred) × (List (List GStep)) × (List GBy) × (List ByteArray))
 | 0,_,_,_,_,_,_,_,_,_,_,_,_,_,_,_,_,_,_,_,_,_,_=>none
 | k+1,a1,a2,a3,a4,a5,a6,a7,a8,a9,a10,a11,a12,a13,a14,a15,a16,a17,a18,a19,a20,a21,a22=>
 if (decide (a8 < a7))=true then
 if (decide (0≤(a8:Int)))=true then
 (match a6[(a8:Int).toNat]? with
 | some ⟨a23,a24,a25,a26⟩=>
 (match t.zaW a25 (IntKind.wrap .i64 (a1+1))with
 | some a27=>
 if (a21.length+([(GBy.mk a23 a24 a27 a26)]:List GBy).length) * 56≤140737488355328 then
 zbT t n k a1 a2 a3 a4 a5 a6 a7 (IntKind.wrap .i64 (a8+1)) a9 a10 a11 a12 a13 a14 a15 a16 a17 a18 a19 a20 (a21++([(GBy.mk a23 a24 a27 a26)]:List GBy)) a22
 else none
 | none=>none)
 | none=>none)
 else none
 else
 some (a1,a2,a3,a4,a5,a6,a7,a8,(decide (a8 < a7)),a9,a10,a11,a12,a13,a14,a15,a16,a17,a18,a19,a20,a21,a22)
def zcw (t:Tab) (n:Nat) (a1:Int) (a2 a3:List GStep) (a4 a5 a6:Int) (a7:List ByteArray) (a8:List Int) (a9 a10:Int) (a11:ByteArray) (a12 a13:List zh) (a14:Int) (a15:List zh) (a16:List GPred) (a17:List (List GStep)) (a18:List GBy) (a19:List ByteArray):Option (Int × (List GStep) × (List GStep) × Int × Int):=
 if (a2.length+([(GStep.mk a6 a7 a8 (zh.mk a9 a10 a11 a12 a13) (GPred.mk a14 a15 a16) a17 a18 a19)]:List GStep).length) * 264≤140737488355328 then
 some (a1,(a2++([(GStep.mk a6 a7 a8 (zh.mk a9 a10 a11 a12 a13) (GPred.mk a14 a15 a16) a17 a18 a19)]:List GStep)),a3,a4,a5)
 else none
def zbU (t:Tab) (n:Nat):Nat→Int→(List GStep)→(List GStep)→Int→Int→Option (Int × (List GStep) × (List GStep) × Int × Int × Bool)
 | 0,_,_,_,_,_=>none
 | k+1,a1,a2,a3,a4,a5=>
 if (decide (a5 < a4))=true then
 if (decide (0≤(a5:Int)))=true then
 (match a3[(a5:Int).toNat]? with
 | some ⟨a6,a7,a8,⟨a9,a10,a11,a12,a13⟩,⟨a14,a15,a16⟩,a17,a18,a19⟩=>
 (match t.slices_Clone_string a7 with
 | some a20=>
 (match t.slices_Clone_int a8 with
 | some a21=>
 (match t.zcn (zh.mk a9 a10 a11 a12 a13)with
 | some ⟨a22,a23,a24,a25,a26⟩=>
 (match t.zdj (GPred.mk a14 a15 a16)with
 | some ⟨a27,a28,a29⟩=>
 (match t.slices_Clone_string a19 with
 | some a30=>
 (match t.zcY a17 (IntKind.wrap .i64 (a1+1))with
 | some a31=>
 (match zbT t n n a1 a2 a3 a4 a5 a18 (a18.length:Int) 0 a6 a20 a21 a22 a23 a24 a25 a26 a27 a28 a29 a31 ([]:List GBy) a30 with
 | some (a32,a33,a34,a35,a36,a37,a38,a39,a40,a41,a42,a43,a44,a45,a46,a47,a48,a49,a50,a51,a52,a53,a54)=>
 (match zcw t n a32 a33 a34 a35 a36 a41 a42 a43 a44 a45 a46 a47 a48 a49 a50 a51 a52 a53 a54 with
 | some (a55,a56,a57,a58,a59)=>
 zbU t n k a55 a56 a57 a58 (IntKind.wrap .i64 (a59+1))
 | none=>none)
 | none=>none)
 | none=>none)
 | none=>none)
 | none=>none)
 | none=>none)
 | none=>none)
 | none=>none)
 | none=>none)
 else none
 else
 some (a1,a2,a3,a4,a5,(decide (a5 < a4)))
def zaW (t:Tab) (n:Nat):(List GStep)→Int→Option (List GStep)
 | a1,a2=>
 if (decide (a2 > 12))=true then
 some ([]:List GStep)
 else
 (match zbU t n n a2 ([]:List GStep) a1 (a1.length:Int) 0 with
 | some (a3,a4,a5,a6,a7,a8)=>
 some a4
 | none=>none)
def zcT (t:Tab) (n:Nat) (a1:List zh) (a2 a3 a4:Int):Option ((List zh) × Int × Int × Int):=
 if (decide (0≤(a4:Int)))=true then
 (match a1[(a4:Int).toNat]? with
 | some ⟨a5,a6,a7,a8,a9⟩=>
 (match t.zbo (zh.mk a5 a6 a7 a8 a9) (IntKind.wrap .i64 (a2-a3))with
 | some a10=>
 some (a1,a2,(IntKind.wrap .i64 (a3+a10)),(IntKind.wrap .i64 (a4+1)))
 | none=>none)
 | none=>none)
 else none
def zb2 (t:Tab) (n:Nat):Nat→(List zh)→Int→Int→Int→Option ((List zh) × Int × Int × Int × Bool)
 | 0,_,_,_,_=>none
 | k+1,a1,a2,a3,a4=>
 if (decide (a4 < (a1.length:Int)))=true then
 if (decide (a3 < a2))=true then
 (match zcT t n a1 a2 a3 a4 with
 | some (a5,a6,a7,a8)=>
 zb2 t n k a5 a6 a7 a8
 | none=>none)
 else
 some (a1,a2,a3,a4,(decide (a3 < a2)))
 else
 some (a1,a2,a3,a4,false)
def zc5 (t:Tab) (n:Nat):(List zh)→Int→Option Int
 | a1,a2=>
 (match zb2 t n n a1 a2 0 0 with
 | some (a3,a4,a5,a6,a7)=>
 some a5
 | none=>none)
def zbr (t:Tab) (n:Nat) (a1 a2:Int) (a3:Bool) (a4 a5:Int) (a6:ByteArray) (a7 a8:List zh) (a9 a10:Int) (a11:ByteArray) (a12 a13:List zh):Option (Int × Int × Int × Int × ByteArray × (List zh) × (List zh) × Int × Int × ByteArray × (List zh) × (List zh)):=
 if a3=true then
 (match t.zdn a7 a12 (IntKind.wrap .i64 (a1+1))with
 | some a14=>
 some (a1,a14,a4,a5,a6,a7,a8,a9,a10,a11,a12,a13)
 | none=>none)
 else
 some (a1,a2,a4,a5,a6,a7,a8,a9,a10,a11,a12,a13)
def zcB (t:Tab) (n:Nat) (a1 a2:Int) (a3:Bool) (a4 a5:Int) (a6:ByteArray) (a7 a8:List zh) (a9 a10:Int) (a11:ByteArray) (a12 a13:List zh):Option Int:=
 if a3=true then
 t.zdn a8 a13 (IntKind.wrap .i64 (a1+1))
 else
 some a2
def zcC (t:Tab) (n:Nat) (a1 a2 a3 a4:Int) (a5:ByteArray) (a6 a7:List zh) (a8 a9:Int) (a10:ByteArray) (a11 a12:List zh):Option Int:=
 if (a2==0)=true then
 zcB t n a1 a2 (decide (a1≤12)) a3 a4 a5 a6 a7 a8 a9 a10 a11 a12
 else
 zcB t n a1 a2 false a3 a4 a5 a6 a7 a8 a9 a10 a11 a12
def zcD (t:Tab) (n:Nat) (a1 a2 a3 a4:Int) (a5:ByteArray) (a6 a7:List zh) (a8 a9:Int) (a10:ByteArray) (a11 a12:List zh):Option Int:=
 if (a2==0)=true then
 (match zbr t n a1 a2 (decide (a1≤12)) a3 a4 a5 a6 a7 a8 a9 a10 a11 a12 with
 | some (a13,a14,a15,a16,a17,a18,a19,a20,a21,a22,a23,a24)=>
 zcC t n a13 a14 a15 a16 a17 a18 a19 a20 a21 a22 a23 a24
 | none=>none)
 else
 (match zbr t n a1 a2 false a3 a4 a5 a6 a7 a8 a9 a10 a11 a12 with
 | some (a26,a27,a28,a29,a30,a31,a32,a33,a34,a35,a36,a37)=>
 zcC t n a26 a27 a28 a29 a30 a31 a32 a33 a34 a35 a36 a37
 | none=>none)
def zcE (t:Tab) (n:Nat) (a1 a2 a3 a4:Int) (a5:ByteArray) (a6 a7:List zh) (a8 a9:Int) (a10:ByteArray) (a11 a12:List zh):Option Int:=
 if (a2==0)=true then
 (match t.zdq a5 a10 with
 | some a13=>
 zcD t n a1 a13 a3 a4 a5 a6 a7 a8 a9 a10 a11 a12
 | none=>none)
 else
 zcD t n a1 a2 a3 a4 a5 a6 a7 a8 a9 a10 a11 a12
def zcg (t:Tab) (n:Nat):zh→zh→Int→Option Int
 | ⟨a1,a2,a3,a4,a5⟩,⟨a6,a7,a8,a9,a10⟩,a11=>
 (match t.zca a1 a6 with
 | some a12=>
 if (a12==0)=true then
 (match t.zca a2 a7 with
 | some a13=>
 zcE t n a11 a13 a1 a2 a3 a4 a5 a6 a7 a8 a9 a10
 | none=>none)
 else
 zcE t n a11 a12 a1 a2 a3 a4 a5 a6 a7 a8 a9 a10
 | none=>none)
def zbx (t:Tab) (n:Nat):Nat→(List zh)→(List zh)→Int→Option (Bool⊕((List zh) × (List zh) × Int × Bool))
 | 0,_,_,_=>none
 | k+1,a1,a2,a3=>
 if (decide (a3 < (a1.length:Int)))=true then
 if (decide (0≤(a3:Int)))=true then
 (match a1[(a3:Int).toNat]? with
 | some ⟨a4,a5,a6,a7,a8⟩=>
 (match a2[(a3:Int).toNat]? with
 | some ⟨a9,a10,a11,a12,a13⟩=>
 (match t.zdl (zh.mk a4 a5 a6 a7 a8) (zh.mk a9 a10 a11 a12 a13)with
 | some a14=>
 if a14=true then
 zbx t n k a1 a2 (IntKind.wrap .i64 (a3+1))
 else
 some (.inl false)
 | none=>none)
 | none=>none)
 | none=>none)
 else none
 else
 some (.inr (a1,a2,a3,(decide (a3 < (a1.length:Int)))))
def zcU (t:Tab) (n:Nat):(List zh)→(List zh)→Option Bool
 | a1,a2=>
 if ((a1.length:Int) !=(a2.length:Int))=true then
 some false
 else
 (match zbx t n n a1 a2 0 with
 | some (.inl a3)=>
 some a3
 | some (.inr (a4,a5,a6,a7))=>
 some true
 | none=>none)
def zc6 (t:Tab) (n:Nat):(List GCode)→(List GCode)→Option Bool
 | a1,a2=>
 t.zaD a1 a2
def zbD (t:Tab) (n:Nat) (a1 a2 a3:Int) (a4 a5:List GStep) (a6 a7:Int) (a8:List (List GStep)) (a9 a10:Int) (a11:Bool):Option (Int × Int × Int × (List GStep) × Int × Int × (List (List GStep)) × Int × Int):=
 if a11=true then
 (match t.zbV a4 (IntKind.wrap .i64 (a1-a3)) (IntKind.wrap .i64 (a2+1))with
 | some a12=>
 some (a1,a2,(IntKind.wrap .i64 (a3+a12)),a5,a6,a7,a8,a9,a10)
 | none=>none)
 else
 some (a1,a2,a3,a5,a6,a7,a8,a9,a10)
def zaU (t:Tab) (n:Nat):Nat→Int→Int→Int→(List GStep)→Int→Int→(List (List GStep))→Int→Int→Option (Int × Int × Int × (List GStep) × Int × Int × (List (List GStep)) × Int × Int × Bool)
 | 0,_,_,_,_,_,_,_,_,_=>none
 | k+1,a1,a2,a3,a4,a5,a6,a7,a8,a9=>
 if (decide (a9 < a8))=true then
 if (decide (0≤(a9:Int)))=true then
 (match a7[(a9:Int).toNat]? with
 | some a10=>
 if (decide (a2≤11))=true then
 (match zbD t n a1 a2 a3 a10 a4 a5 a6 a7 a8 a9 (decide (a3 < a1))with
 | some (a11,a12,a13,a14,a15,a16,a17,a18,a19)=>
 zaU t n k a11 a12 a13 a14 a15 a16 a17 a18 (IntKind.wrap .i64 (a19+1))
 | none=>none)
 else
 (match zbD t n a1 a2 a3 a10 a4 a5 a6 a7 a8 a9 false with
 | some (a20,a21,a22,a23,a24,a25,a26,a27,a28)=>
 zaU t n k a20 a21 a22 a23 a24 a25 a26 a27 (IntKind.wrap .i64 (a28+1))
 | none=>none)
 | none=>none)
 else none
 else
 some (a1,a2,a3,a4,a5,a6,a7,a8,a9,(decide (a9 < a8)))
def za5 (t:Tab) (n:Nat):Nat→Int→Int→Int→(List GStep)→Int→Int→Option (Int⊕(Int × Int × Int × (List GStep) × Int × Int × Bool))
 | 0,_,_,_,_,_,_=>none
 | k+1,a1,a2,a3,a4,a5,a6=>
 if (decide (a6 < a5))=true then
 if (decide (0≤(a6:Int)))=true then
 (match a4[(a6:Int).toNat]? with
 | some ⟨a7,a8,a9,⟨a10,a11,a12,a13,a14⟩,⟨a15,a16,a17⟩,a18,a19,a20⟩=>
 if (decide ((IntKind.wrap .i64 (a3+1))≥a1))=true then
 some (.inl a1)
 else
 (match t.zcZ (GStep.mk a7 a8 a9 (zh.mk a10 a11 a12 a13 a14) (GPred.mk a15 a16 a17) a18 a19 a20)with
 | some a21=>
 (match zaU t n n a1 a2 (IntKind.wrap .i64 (a3+1)) a4 a5 a6 a21 (a21.length:Int) 0 with
 | some (a22,a23,a24,a25,a26,a27,a28,a29,a30,a31)=>
 za5 t n k a22 a23 a24 a25 a26 (IntKind.wrap .i64 (a27+1))
 | none=>none)
 | none=>none)
 | none=>none)
 else none
 else
 some (.inr (a1,a2,a3,a4,a5,a6,(decide (a6 < a5))))
def zbV (t:Tab) (n:Nat):(List GStep)→Int→Int→Option Int
 | a1,a2,a3=>
 (match za5 t n n a2 a3 0 a1 (a1.length:Int) 0 with
 | some (.inl a4)=>
 some a4
 | some (.inr (a5,a6,a7,a8,a9,a10,a11))=>
 some a7
 | none=>none)
def zK (t:Tab) (n:Nat):(List GStep)→Int→Option Bool
 | a1,a2=>
 (match t.zaa a1 a2 with
 | some a3=>
 some (decide (a3≥0))
 | none=>none)
def zcn (t:Tab) (n:Nat):zh→Option zh
 | ⟨a1,a2,a3,a4,a5⟩=>
 t.zco (zh.mk a1 a2 a3 a4 a5) 1
def zdj (t:Tab) (n:Nat):GPred→Option GPred
 | ⟨a1,a2,a3⟩=>
 t.zcH (GPred.mk a1 a2 a3) 1
def zch (t:Tab) (n:Nat):Nat→Int→(List (List GStep))→(List (List GStep))→Int→Int→Option (Int × (List (List GStep)) × (List (List GStep)) × Int × Int × Bool)
 | 0,_,_,_,_,_=>none
 | k+1,a1,a2,a3,a4,a5=>
 if (decide (a5 < a4))=true then
 if (decide (0≤(a5:Int)))=true then
 (match a3[(a5:Int).toNat]? with
 | some a6=>
 (match t.zaW a6 a1 with
 | some a7=>
 if (a2.length+([a7]:List (List GStep)).length) * 24≤140737488355328 then
 zch t n k a1 (a2++([a7]:List (List GStep))) a3 a4 (IntKind.wrap .i64 (a5+1))
 else none
 | none=>none)
 | none=>none)
 else none
 else
 some (a1,a2,a3,a4,a5,(decide (a5 < a4)))
def zcY (t:Tab) (n:Nat):(List (List GStep))→Int→Option (List (List GStep))
 | a1,a2=>
 (match zch t n n a2 ([]:List (List GStep)) a1 (a1.length:Int) 0 with
 | some (a3,a4,a5,a6,a7,a8)=>
 some a4
 | none=>none)
def zca (t:Tab) (n:Nat):Int→Int→Option Int
 | a1,a2=>
 if (decide (a1 < a2))=true then
 some (-1)
 else
 if (decide (a1 > a2))=true then
 some 1
 else
 some 0
def zcx (t:Tab) (n:Nat) (a1 a2:ByteArray) (a3:Int):Option (Int⊕(ByteArray × ByteArray × Int)):=
 (match strAt a1 a3 with
 | some a4=>
 (match strAt a2 a3 with
 | some a5=>
 if (a4 !=a5)=true then
 (match t.zca (IntKind.wrap .i64 a4) (IntKind.wrap .i64 a5)with
 | some a6=>
 some (.inl a6)
 | none=>none)
 else
 some (.inr (a1,a2,(IntKind.wrap .i64 (a3+1))))
 | none=>none)
 | none=>none)
def zcy (t:Tab) (n:Nat):Nat→ByteArray→ByteArray→Int→Option (Int⊕(ByteArray × ByteArray × Int × Bool))
 | 0,_,_,_=>none
 | k+1,a1,a2,a3=>
 if (decide (a3 < (a1.size:Int)))=true then
 if (decide (a3 < (a2.size:Int)))=true then
 (match zcx t n a1 a2 a3 with
 | some (.inl a4)=>
 some (.inl a4)
 | some (.inr (a5,a6,a7))=>
 zcy t n k a5 a6 a7
 | none=>none)
 else
 some (.inr (a1,a2,a3,(decide (a3 < (a2.size:Int)))))
 else
 some (.inr (a1,a2,a3,false))
def zdw (t:Tab) (n:Nat) (a1 a2:ByteArray):Option Int:=
 t.zca (a1.size:Int) (a2.size:Int)
def zdq (t:Tab) (n:Nat):ByteArray→ByteArray→Option Int
 | a1,a2=>
 (match zcy t n n a1 a2 0 with
 | some (.inl a3)=>
 some a3
 | some (.inr (a4,a5,a6,a7))=>
 zdw t n a4 a5
 | none=>none)
def zcV (t:Tab) (n:Nat) (a1 a2:List zh) (a3 a4:Int):Option (Int⊕((List zh) × (List zh) × Int × Int)):=
 if (decide (0≤(a4:Int)))=true then
 (match a1[(a4:Int).toNat]? with
 | some ⟨a5,a6,a7,a8,a9⟩=>
 (match a2[(a4:Int).toNat]? with
 | some ⟨a10,a11,a12,a13,a14⟩=>
 (match t.zcg (zh.mk a5 a6 a7 a8 a9) (zh.mk a10 a11 a12 a13 a14) a3 with
 | some a15=>
 if (a15 !=0)=true then
 some (.inl a15)
 else
 some (.inr (a1,a2,a3,(IntKind.wrap .i64 (a4+1))))
 | none=>none)
 | none=>none)
 | none=>none)
 else none
def zcW (t:Tab) (n:Nat):Nat→(List zh)→(List zh)→Int→Int→Option (Int⊕((List zh) × (List zh) × Int × Int × Bool))
 | 0,_,_,_,_=>none
 | k+1,a1,a2,a3,a4=>
 if (decide (a4 < (a1.length:Int)))=true then
 if (decide (a4 < (a2.length:Int)))=true then
 (match zcV t n a1 a2 a3 a4 with
 | some (.inl a5)=>
 some (.inl a5)
 | some (.inr (a6,a7,a8,a9))=>
 zcW t n k a6 a7 a8 a9
 | none=>none)
 else
 some (.inr (a1,a2,a3,a4,(decide (a4 < (a2.length:Int)))))
 else
 some (.inr (a1,a2,a3,a4,false))
def zdJ (t:Tab) (n:Nat) (a1 a2:List zh):Option Int:=
 t.zca (a1.length:Int) (a2.length:Int)
def zdn (t:Tab) (n:Nat):(List zh)→(List zh)→Int→Option Int
 | a1,a2,a3=>
 (match zcW t n n a1 a2 a3 0 with
 | some (.inl a4)=>
 some a4
 | some (.inr (a5,a6,a7,a8,a9))=>
 zdJ t n a5 a6
 | none=>none)
def zaq (t:Tab) (n:Nat):Nat→(List GCode)→(List GCode)→Int→Int→Option (Bool⊕((List GCode) × (List GCode) × Int × Int × Bool))
 | 0,_,_,_,_=>none
 | k+1,a1,a2,a3,a4=>
 if (decide (a4 < a3))=true then
 if (decide (0≤(a4:Int)))=true then
 (match a2[(a4:Int).toNat]? with
 | some ⟨a5,a6,a7,⟨a8,a9,a10,a11,a12⟩,⟨a13,a14,a15⟩,a16,a17,a18⟩=>
 (match a1[(a4:Int).toNat]? with
 | some ⟨a19,a20,a21,⟨a22,a23,a24,a25,a26⟩,⟨a27,a28,a29⟩,a30,a31,a32⟩=>
 (match t.zdx (GCode.mk a5 a6 a7 (zh.mk a8 a9 a10 a11 a12) (GPred.mk a13 a14 a15) a16 a17 a18) (GCode.mk a19 a20 a21 (zh.mk a22 a23 a24 a25 a26) (GPred.mk a27 a28 a29) a30 a31 a32)with
 | some a33=>
 if a33=true then
 zaq t n k a1 a2 a3 (IntKind.wrap .i64 (a4+1))
 else
 some (.inl false)
 | none=>none)
 | none=>none)
 | none=>none)
 else none
 else
 some (.inr (a1,a2,a3,a4,(decide (a4 < a3))))
def zaD (t:Tab) (n:Nat):(List GCode)→(List GCode)→Option Bool
 | a1,a2=>
 if ((a1.length:Int) !=(a2.length:Int))=true then
 some false
 else
 (match zaq t n n a2 a1 (a1.length:Int) 0 with
 | some (.inl a3)=>
 some a3
 | some (.inr (a4,a5,a6,a7,a8))=>
 some true
 | none=>none)
def zbE (t:Tab) (n:Nat) (a1:List (List GStep)) (a2:List GBy) (a3 a4:Int) (a5:Bool) (a6:Int) (a7:ByteArray) (a8:List GStep) (a9:Bool):Option ((List (List GStep)) × (List GBy) × Int × Int):=
 if a5=true then
 if (a1.length+([a8]:List (List GStep)).length) * 24≤140737488355328 then
 some ((a1++([a8]:List (List GStep))),a2,a3,a4)
 else none
 else
 some (a1,a2,a3,a4)
def zbF (t:Tab) (n:Nat):Nat→(List (List GStep))→(List GBy)→Int→Int→Option ((List (List GStep)) × (List GBy) × Int × Int × Bool)
 | 0,_,_,_,_=>none
 | k+1,a1,a2,a3,a4=>
 if (decide (a4 < a3))=true then
 if (decide (0≤(a4:Int)))=true then
 (match a2[(a4:Int).toNat]? with
 | some ⟨a5,a6,a7,a8⟩=>
 if (a5==3)=true then
 (match zbE t n a1 a2 a3 a4 true a5 a6 a7 a8 with
 | some (a9,a10,a11,a12)=>
 zbF t n k a9 a10 a11 (IntKind.wrap .i64 (a12+1))
 | none=>none)
 else
 (match zbE t n a1 a2 a3 a4 (decide ((a7.length:Int) > 0)) a5 a6 a7 a8 with
 | some (a13,a14,a15,a16)=>
 zbF t n k a13 a14 a15 (IntKind.wrap .i64 (a16+1))
 | none=>none)
 | none=>none)
 else none
 else
 some (a1,a2,a3,a4,(decide (a4 < a3)))
def zcZ (t:Tab) (n:Nat):GStep→Option (List (List GStep))
 | ⟨a1,a2,a3,⟨a4,a5,a6,a7,a8⟩,⟨a9,a10,a11⟩,a12,a13,a14⟩=>
 (match t.zdE a12 with
 | some a15=>
 (match zbF t n n a15 a13 (a13.length:Int) 0 with
 | some (a16,a17,a18,a19,a20)=>
 some a16
 | none=>none)
 | none=>none)
def zL (t:Tab) (n:Nat):Nat→(List GStep)→Int→Int→Int→Option (Int⊕((List GStep) × Int × Int × Int × Bool))
 | 0,_,_,_,_=>none
 | k+1,a1,a2,a3,a4=>
 if (decide (a4 < a3))=true then
 if (decide (0≤(a4:Int)))=true then
 (match a1[(a4:Int).toNat]? with
 | some ⟨a5,a6,a7,⟨a8,a9,a10,a11,a12⟩,⟨a13,a14,a15⟩,a16,a17,a18⟩=>
 (match t.zby (GStep.mk a5 a6 a7 (zh.mk a8 a9 a10 a11 a12) (GPred.mk a13 a14 a15) a16 a17 a18) a2 with
 | some a19=>
 if a19=true then
 some (.inl a4)
 else
 zL t n k a1 a2 a3 (IntKind.wrap .i64 (a4+1))
 | none=>none)
 | none=>none)
 else none
 else
 some (.inr (a1,a2,a3,a4,(decide (a4 < a3))))
def zaa (t:Tab) (n:Nat):(List GStep)→Int→Option Int
 | a1,a2=>
 (match zL t n n a1 a2 (a1.length:Int) 0 with
 | some (.inl a3)=>
 some a3
 | some (.inr (a4,a5,a6,a7,a8))=>
 some (-1)
 | none=>none)
def zco (t:Tab) (n:Nat):zh→Int→Option zh
 | ⟨a1,a2,a3,a4,a5⟩,a6=>
 if (decide (a6 > 12))=true then
 some (zh.mk a1 a2 a3 ([]:List zh) ([]:List zh))
 else
 (match t.zbL a4 (IntKind.wrap .i64 (a6+1))with
 | some a7=>
 (match t.zbL a5 (IntKind.wrap .i64 (a6+1))with
 | some a8=>
 some (zh.mk a1 a2 a3 a7 a8)
 | none=>none)
 | none=>none)
def zcF (t:Tab) (n:Nat):Nat→Int→(List zh)→Int→Int→Int→(List zh)→(List GPred)→Int→(List zh)→(List GPred)→Int→(List zh)→(List GPred)→Option (Int × (List zh) × Int × Int × Bool × Int × (List zh) × (List GPred) × Int × (List zh) × (List GPred) × Int × (List zh) × (List GPred))
 | 0,_,_,_,_,_,_,_,_,_,_,_,_,_=>none
 | k+1,a1,a2,a3,a4,a5,a6,a7,a8,a9,a10,a11,a12,a13=>
 if (decide (a4 < a3))=true then
 if (decide (0≤(a4:Int)))=true then
 (match a2[(a4:Int).toNat]? with
 | some ⟨a14,a15,a16,a17,a18⟩=>
 (match t.zcn (zh.mk a14 a15 a16 a17 a18)with
 | some ⟨a19,a20,a21,a22,a23⟩=>
 if (a12.length+([(zh.mk a19 a20 a21 a22 a23)]:List zh).length) * 80≤140737488355328 then
 zcF t n k a1 a2 a3 (IntKind.wrap .i64 (a4+1)) a5 a6 a7 a8 a9 a10 a11 (a12++([(zh.mk a19 a20 a21 a22 a23)]:List zh)) a13
 else none
 | none=>none)
 | none=>none)
 else none
 else
 some (a1,a2,a3,a4,(decide (a4 < a3)),a5,a6,a7,a8,a9,a10,a11,a12,a13)
def zcG (t:Tab) (n:Nat):Nat→Int→(List GPred)→Int→Int→Int→(List zh)→(List GPred)→Int→(List zh)→(List GPred)→Option (Int × (List GPred) × Int × Int × Bool × Int × (List zh) × (List GPred) × Int × (List zh) × (List GPred))
 | 0,_,_,_,_,_,_,_,_,_,_=>none
 | k+1,a1,a2,a3,a4,a5,a6,a7,a8,a9,a10=>
 if (decide (a4 < a3))=true then
 if (decide (0≤(a4:Int)))=true then
 (match a2[(a4:Int).toNat]? with
 | some ⟨a11,a12,a13⟩=>
 (match t.zcH (GPred.mk a11 a12 a13) (IntKind.wrap .i64 (a1+1))with
 | some ⟨a14,a15,a16⟩=>
 if (a10.length+([(GPred.mk a14 a15 a16)]:List GPred).length) * 56≤140737488355328 then
 zcG t n k a1 a2 a3 (IntKind.wrap .i64 (a4+1)) a5 a6 a7 a8 a9 (a10++([(GPred.mk a14 a15 a16)]:List GPred))
 else none
 | none=>none)
 | none=>none)
 else none
 else
 some (a1,a2,a3,a4,(decide (a4 < a3)),a5,a6,a7,a8,a9,a10)
def zc7 (t:Tab) (n:Nat) (a1 a2:Int) (a3:List zh) (a4:List GPred) (a5:Int) (a6:List zh) (a7:List GPred) (a8:Int) (a9:List zh) (a10:List GPred):Option (Int × (List zh) × (List GPred)):=
 (match zcG t n n a1 a4 (a4.length:Int) 0 a5 a6 a7 a8 a9 a10 with
 | some (a11,a12,a13,a14,a15,a16,a17,a18,a19,a20,a21)=>
 some (a19,a20,a21)
 | none=>none)
def zcH (t:Tab) (n:Nat):GPred→Int→Option GPred
 | ⟨a1,a2,a3⟩,a4=>
 if (decide (a4 > 12))=true then
 some (GPred.mk a1 ([]:List zh) ([]:List GPred))
 else
 (match zcF t n n a4 a2 (a2.length:Int) 0 a1 a2 a3 0 ([]:List zh) ([]:List GPred) a1 ([]:List zh) ([]:List GPred)with
 | some (a5,a6,a7,a8,a9,a10,a11,a12,a13,a14,a15,a16,a17,a18)=>
 (match zc7 t n a5 a10 a11 a12 a13 a14 a15 a16 a17 a18 with
 | some (a19,a20,a21)=>
 some (GPred.mk a19 a20 a21)
 | none=>none)
 | none=>none)
def zci (t:Tab) (n:Nat):Bool→GCode→GCode→Option Bool
 | a1,⟨a2,a3,a4,⟨a5,a6,a7,a8,a9⟩,⟨a10,a11,a12⟩,a13,a14,a15⟩,⟨a16,a17,a18,⟨a19,a20,a21,a22,a23⟩,⟨a24,a25,a26⟩,a27,a28,a29⟩=>
 if a1=true then
 (match t.slices_Equal_int a13 a27 with
 | some a30=>
 if a30=true then
 (match t.zcj a14 a28 with
 | some a31=>
 if a31=true then
 (match t.zbk (zh.mk a5 a6 a7 a8 a9) (zh.mk a19 a20 a21 a22 a23)with
 | some a32=>
 if a32=true then
 t.zbW (GPred.mk a10 a11 a12) (GPred.mk a24 a25 a26)
 else
 some false
 | none=>none)
 else
 some false
 | none=>none)
 else
 some false
 | none=>none)
 else
 some false
def zdx (t:Tab) (n:Nat):GCode→GCode→Option Bool
 | ⟨a1,a2,a3,⟨a4,a5,a6,a7,a8⟩,⟨a9,a10,a11⟩,a12,a13,a14⟩,⟨a15,a16,a17,⟨a18,a19,a20,a21,a22⟩,⟨a23,a24,a25⟩,a26,a27,a28⟩=>
 if (a1==a15)=true then
 (match t.slices_Equal_string a2 a16 with
 | some a29=>
 if a29=true then
 (match t.slices_Equal_int a3 a17 with
 | some a30=>
 if a30=true then
 (match t.slices_Equal_string a14 a28 with
 | some a31=>
 zci t n a31 (GCode.mk a1 a2 a3 (zh.mk a4 a5 a6 a7 a8) (GPred.mk a9 a10 a11) a12 a13 a14) (GCode.mk a15 a16 a17 (zh.mk a18 a19 a20 a21 a22) (GPred.mk a23 a24 a25) a26 a27 a28)
 | none=>none)
 else
 zci t n false (GCode.mk a1 a2 a3 (zh.mk a4 a5 a6 a7 a8) (GPred.mk a9 a10 a11) a12 a13 a14) (GCode.mk a15 a16 a17 (zh.mk a18 a19 a20 a21 a22) (GPred.mk a23 a24 a25) a26 a27 a28)
 | none=>none)
 else
 zci t n false (GCode.mk a1 a2 a3 (zh.mk a4 a5 a6 a7 a8) (GPred.mk a9 a10 a11) a12 a13 a14) (GCode.mk a15 a16 a17 (zh.mk a18 a19 a20 a21 a22) (GPred.mk a23 a24 a25) a26 a27 a28)
 | none=>none)
 else
 zci t n false (GCode.mk a1 a2 a3 (zh.mk a4 a5 a6 a7 a8) (GPred.mk a9 a10 a11) a12 a13 a14) (GCode.mk a15 a16 a17 (zh.mk a18 a19 a20 a21 a22) (GPred.mk a23 a24 a25) a26 a27 a28)
def zby (t:Tab) (n:Nat):GStep→Int→Option Bool
 | ⟨a1,a2,a3,⟨a4,a5,a6,a7,a8⟩,⟨a9,a10,a11⟩,a12,a13,a14⟩,a15=>
 (match t.zdk (GStep.mk a1 a2 a3 (zh.mk a4 a5 a6 a7 a8) (GPred.mk a9 a10 a11) a12 a13 a14) a15 with
 | some a16=>
 some (!a16)
 | none=>none)
def zbs (t:Tab) (n:Nat):Nat→Int→(List zh)→(List zh)→Int→Int→Option (Int × (List zh) × (List zh) × Int × Int × Bool)
 | 0,_,_,_,_,_=>none
 | k+1,a1,a2,a3,a4,a5=>
 if (decide (a5 < a4))=true then
 if (decide (0≤(a5:Int)))=true then
 (match a3[(a5:Int).toNat]? with
 | some ⟨a6,a7,a8,a9,a10⟩=>
 (match t.zco (zh.mk a6 a7 a8 a9 a10) a1 with
 | some ⟨a11,a12,a13,a14,a15⟩=>
 if (a2.length+([(zh.mk a11 a12 a13 a14 a15)]:List zh).length) * 80≤140737488355328 then
 zbs t n k a1 (a2++([(zh.mk a11 a12 a13 a14 a15)]:List zh)) a3 a4 (IntKind.wrap .i64 (a5+1))
 else none
 | none=>none)
 | none=>none)
 else none
 else
 some (a1,a2,a3,a4,a5,(decide (a5 < a4)))
def zbL (t:Tab) (n:Nat):(List zh)→Int→Option (List zh)
 | a1,a2=>
 (match zbs t n n a2 ([]:List zh) a1 (a1.length:Int) 0 with
 | some (a3,a4,a5,a6,a7,a8)=>
 some a4
 | none=>none)
def zaN (t:Tab) (n:Nat):Nat→(List ByteArray)→(List ByteArray)→Int→Int→Option (Bool⊕((List ByteArray) × (List ByteArray) × Int × Int × Bool))
 | 0,_,_,_,_=>none
 | k+1,a1,a2,a3,a4=>
 if (decide (a4 < a3))=true then
 if (decide (0≤(a4:Int)))=true then
 (match a1[(a4:Int).toNat]? with
 | some a5=>
 (match a2[(a4:Int).toNat]? with
 | some a6=>
 if (a5.toList==a6.toList)=true then
 zaN t n k a1 a2 a3 (IntKind.wrap .i64 (a4+1))
 else
 some (.inl false)
 | none=>none)
 | none=>none)
 else none
 else
 some (.inr (a1,a2,a3,a4,(decide (a4 < a3))))
def slices_Equal_string (t:Tab) (n:Nat):(List ByteArray)→(List ByteArray)→Option Bool
 | a1,a2=>
 if ((a1.length:Int) !=(a2.length:Int))=true then
 some false
 else
 (match zaN t n n a1 a2 (a1.length:Int) 0 with
 | some (.inl a3)=>
 some a3
 | some (.inr (a4,a5,a6,a7,a8))=>
 some true
 | none=>none)
def za8 (t:Tab) (n:Nat):Nat→(List Int)→(List Int)→Int→Int→Option (Bool⊕((List Int) × (List Int) × Int × Int × Bool))
 | 0,_,_,_,_=>none
 | k+1,a1,a2,a3,a4=>
 if (decide (a4 < a3))=true then
 if (decide (0≤(a4:Int)))=true then
 (match a1[(a4:Int).toNat]? with
 | some a5=>
 (match a2[(a4:Int).toNat]? with
 | some a6=>
 if (a5 !=a6)=true then
 some (.inl false)
 else
 za8 t n k a1 a2 a3 (IntKind.wrap .i64 (a4+1))
 | none=>none)
 | none=>none)
 else none
 else
 some (.inr (a1,a2,a3,a4,(decide (a4 < a3))))
def slices_Equal_int (t:Tab) (n:Nat):(List Int)→(List Int)→Option Bool
 | a1,a2=>
 if ((a1.length:Int) !=(a2.length:Int))=true then
 some false
 else
 (match za8 t n n a1 a2 (a1.length:Int) 0 with
 | some (.inl a3)=>
 some a3
 | some (.inr (a4,a5,a6,a7,a8))=>
 some true
 | none=>none)
def za9 (t:Tab) (n:Nat):Nat→(List GKey)→(List GKey)→Int→Int→Option (Bool⊕((List GKey) × (List GKey) × Int × Int × Bool))
 | 0,_,_,_,_=>none
 | k+1,a1,a2,a3,a4=>
 if (decide (a4 < a3))=true then
 if (decide (0≤(a4:Int)))=true then
 (match a1[(a4:Int).toNat]? with
 | some ⟨a5,a6,a7,a8⟩=>
 (match a2[(a4:Int).toNat]? with
 | some ⟨a9,a10,a11,a12⟩=>
 if ((a5==a9)&&((a6.toList==a10.toList)&&((a7==a11)&&((a8==a12)&&true))))=true then
 za9 t n k a1 a2 a3 (IntKind.wrap .i64 (a4+1))
 else
 some (.inl false)
 | none=>none)
 | none=>none)
 else none
 else
 some (.inr (a1,a2,a3,a4,(decide (a4 < a3))))
def zcj (t:Tab) (n:Nat):(List GKey)→(List GKey)→Option Bool
 | a1,a2=>
 if ((a1.length:Int) !=(a2.length:Int))=true then
 some false
 else
 (match za9 t n n a1 a2 (a1.length:Int) 0 with
 | some (.inl a3)=>
 some a3
 | some (.inr (a4,a5,a6,a7,a8))=>
 some true
 | none=>none)
def zbk (t:Tab) (n:Nat):zh→zh→Option Bool
 | ⟨a1,a2,a3,a4,a5⟩,⟨a6,a7,a8,a9,a10⟩=>
 (match t.zdc (zh.mk a1 a2 a3 a4 a5) (zh.mk a6 a7 a8 a9 a10)with
 | some a11=>
 some (a11==0)
 | none=>none)
def zbW (t:Tab) (n:Nat):GPred→GPred→Option Bool
 | ⟨a1,a2,a3⟩,⟨a4,a5,a6⟩=>
 if (a1==a4)=true then
 (match t.zax a2 a5 with
 | some a7=>
 if a7=true then
 t.zat a3 a6
 else
 some false
 | none=>none)
 else
 some false
def zbM (t:Tab) (n:Nat) (a1:Int) (a2:Bool) (a3:Int) (a4:List ByteArray) (a5:List Int) (a6 a7:Int) (a8:ByteArray) (a9 a10:List zh) (a11:Int) (a12:List zh) (a13:List GPred) (a14:List (List GStep)) (a15:List GBy) (a16:List ByteArray):Option (Bool⊕(Int × Int × (List ByteArray) × (List Int) × Int × Int × ByteArray × (List zh) × (List zh) × Int × (List zh) × (List GPred) × (List (List GStep)) × (List GBy) × (List ByteArray))):=
 if a2=true then
 some (.inl false)
 else
 if (a3==43)=true then
 (match t.zbX a4 with
 | some a17=>
 if a17=true then
 some (.inl false)
 else
 if (decide ((a15.length:Int) > (a4.length:Int)))=true then
 some (.inl false)
 else
 some (.inr (a1,a3,a4,a5,a6,a7,a8,a9,a10,a11,a12,a13,a14,a15,a16))
 | none=>none)
 else
 some (.inr (a1,a3,a4,a5,a6,a7,a8,a9,a10,a11,a12,a13,a14,a15,a16))
def zbN (t:Tab) (n:Nat) (a1:Int) (a2:Bool) (a3:Int) (a4:List ByteArray) (a5:List Int) (a6 a7:Int) (a8:ByteArray) (a9 a10:List zh) (a11:Int) (a12:List zh) (a13:List GPred) (a14:List (List GStep)) (a15:List GBy) (a16:List ByteArray) (a17 a18 a19 a20 a21 a22 a23 a24:Int) (a25 a26:Bool):Option (Bool⊕(Int × Int × (List ByteArray) × (List Int) × Int × Int × ByteArray × (List zh) × (List zh) × Int × (List zh) × (List GPred) × (List (List GStep)) × (List GBy) × (List ByteArray))):=
 if a2=true then
 some (.inl false)
 else
 if a26=true then
 (match t.zcp (GPred.mk a11 a12 a13)with
 | some a27=>
 if (a27 !=0)=true then
 zbM t n a1 true a3 a4 a5 a6 a7 a8 a9 a10 a11 a12 a13 a14 a15 a16
 else
 zbM t n a1 false a3 a4 a5 a6 a7 a8 a9 a10 a11 a12 a13 a14 a15 a16
 | none=>none)
 else
 (match t.zcd (GPred.mk a11 a12 a13)with
 | some a60=>
 zbM t n a1 (!a60) a3 a4 a5 a6 a7 a8 a9 a10 a11 a12 a13 a14 a15 a16
 | none=>none)
def zbO (t:Tab) (n:Nat) (a1:Int) (a2:Bool) (a3:Int) (a4:List ByteArray) (a5:List Int) (a6 a7:Int) (a8:ByteArray) (a9 a10:List zh) (a11:Int) (a12:List zh) (a13:List GPred) (a14:List (List GStep)) (a15:List GBy) (a16:List ByteArray) (a17 a18 a19 a20 a21 a22 a23 a24:Int) (a25 a26:Bool):Option (Bool⊕(Int × Int × (List ByteArray) × (List Int) × Int × Int × ByteArray × (List zh) × (List zh) × Int × (List zh) × (List GPred) × (List (List GStep)) × (List GBy) × (List ByteArray))):=
 if a2=true then
 some (.inl false)
 else
 if a25=true then
 (match t.zbA (zh.mk a6 a7 a8 a9 a10)with
 | some a27=>
 if (a27 !=0)=true then
 zbN t n a1 true a3 a4 a5 a6 a7 a8 a9 a10 a11 a12 a13 a14 a15 a16 a17 a18 a19 a20 a21 a22 a23 a24 a25 a26
 else
 zbN t n a1 false a3 a4 a5 a6 a7 a8 a9 a10 a11 a12 a13 a14 a15 a16 a17 a18 a19 a20 a21 a22 a23 a24 a25 a26
 | none=>none)
 else
 (match t.zbk (zh.mk a6 a7 a8 a9 a10) (zh.mk 0 0 ByteArray.empty ([]:List zh) ([]:List zh))with
 | some a60=>
 zbN t n a1 (!a60) a3 a4 a5 a6 a7 a8 a9 a10 a11 a12 a13 a14 a15 a16 a17 a18 a19 a20 a21 a22 a23 a24 a25 a26
 | none=>none)
def zaC (t:Tab) (n:Nat) (a1:Int) (a2:Bool) (a3:Int) (a4:List ByteArray) (a5:List Int) (a6 a7:Int) (a8:ByteArray) (a9 a10:List zh) (a11:Int) (a12:List zh) (a13:List GPred) (a14:List (List GStep)) (a15:List GBy) (a16:List ByteArray) (a17 a18 a19 a20 a21 a22 a23 a24:Int) (a25 a26:Bool):Option (Bool⊕(Int × Int × (List ByteArray) × (List Int) × Int × Int × ByteArray × (List zh) × (List zh) × Int × (List zh) × (List GPred) × (List (List GStep)) × (List GBy) × (List ByteArray))):=
 if a2=true then
 some (.inl false)
 else
 (match t.zz a4 with
 | some a27=>
 if a27=true then
 zbO t n a1 true a3 a4 a5 a6 a7 a8 a9 a10 a11 a12 a13 a14 a15 a16 a17 a18 a19 a20 a21 a22 a23 a24 a25 a26
 else
 (match t.zz a16 with
 | some a44=>
 if a44=true then
 zbO t n a1 true a3 a4 a5 a6 a7 a8 a9 a10 a11 a12 a13 a14 a15 a16 a17 a18 a19 a20 a21 a22 a23 a24 a25 a26
 else
 (match t.zbn (GStep.mk a3 a4 a5 (zh.mk a6 a7 a8 a9 a10) (GPred.mk a11 a12 a13) a14 a15 a16)with
 | some a61=>
 zbO t n a1 (!a61) a3 a4 a5 a6 a7 a8 a9 a10 a11 a12 a13 a14 a15 a16 a17 a18 a19 a20 a21 a22 a23 a24 a25 a26
 | none=>none)
 | none=>none)
 | none=>none)
def zcb (t:Tab) (n:Nat):Nat→Int→(List (List GStep))→Int→Int→Int→(List ByteArray)→(List Int)→Int→Int→ByteArray→(List zh)→(List zh)→Int→(List zh)→(List GPred)→(List (List GStep))→(List GBy)→(List ByteArray)→Option (Bool⊕(Int × (List (List GStep)) × Int × Int × Bool × Int × (List ByteArray) × (List Int) × Int × Int × ByteArray × (List zh) × (List zh) × Int × (List zh) × (List GPred) × (List (List GStep)) × (List GBy) × (List ByteArray)))
 | 0,_,_,_,_,_,_,_,_,_,_,_,_,_,_,_,_,_,_=>none
 | k+1,a1,a2,a3,a4,a5,a6,a7,a8,a9,a10,a11,a12,a13,a14,a15,a16,a17,a18=>
 if (decide (a4 < a3))=true then
 if (decide (0≤(a4:Int)))=true then
 (match a2[(a4:Int).toNat]? with
 | some a19=>
 (match t.zaY a19 (IntKind.wrap .i64 (a1+1))with
 | some a20=>
 if a20=true then
 zcb t n k a1 a2 a3 (IntKind.wrap .i64 (a4+1)) a5 a6 a7 a8 a9 a10 a11 a12 a13 a14 a15 a16 a17 a18
 else
 some (.inl false)
 | none=>none)
 | none=>none)
 else none
 else
 some (.inr (a1,a2,a3,a4,(decide (a4 < a3)),a5,a6,a7,a8,a9,a10,a11,a12,a13,a14,a15,a16,a17,a18))
def zcc (t:Tab) (n:Nat):Nat→Int→(List GBy)→Int→Int→Int→(List ByteArray)→(List Int)→Int→Int→ByteArray→(List zh)→(List zh)→Int→(List zh)→(List GPred)→(List (List GStep))→(List GBy)→(List ByteArray)→Option (Bool⊕(Int × (List GBy) × Int × Int × Bool × Int × (List ByteArray) × (List Int) × Int × Int × ByteArray × (List zh) × (List zh) × Int × (List zh) × (List GPred) × (List (List GStep)) × (List GBy) × (List ByteArray)))
 | 0,_,_,_,_,_,_,_,_,_,_,_,_,_,_,_,_,_,_=>none
 | k+1,a1,a2,a3,a4,a5,a6,a7,a8,a9,a10,a11,a12,a13,a14,a15,a16,a17,a18=>
 if (decide (a4 < a3))=true then
 if (decide (0≤(a4:Int)))=true then
 (match a2[(a4:Int).toNat]? with
 | some ⟨a19,a20,a21,a22⟩=>
 (match t.zdo (GBy.mk a19 a20 a21 a22) (a5==40) a1 with
 | some a23=>
 if a23=true then
 zcc t n k a1 a2 a3 (IntKind.wrap .i64 (a4+1)) a5 a6 a7 a8 a9 a10 a11 a12 a13 a14 a15 a16 a17 a18
 else
 some (.inl false)
 | none=>none)
 | none=>none)
 else none
 else
 some (.inr (a1,a2,a3,a4,(decide (a4 < a3)),a5,a6,a7,a8,a9,a10,a11,a12,a13,a14,a15,a16,a17,a18))
def zdC (t:Tab) (n:Nat) (a1 a2:Int) (a3:List ByteArray) (a4:List Int) (a5 a6:Int) (a7:ByteArray) (a8 a9:List zh) (a10:Int) (a11:List zh) (a12:List GPred) (a13:List (List GStep)) (a14:List GBy) (a15:List ByteArray):Option Bool:=
 (match zcc t n n a1 a14 (a14.length:Int) 0 a2 a3 a4 a5 a6 a7 a8 a9 a10 a11 a12 a13 a14 a15 with
 | some (.inl a16)=>
 some a16
 | some (.inr (a17,a18,a19,a20,a21,a22,a23,a24,a25,a26,a27,a28,a29,a30,a31,a32,a33,a34,a35))=>
 some true
 | none=>none)
def zbz (t:Tab) (n:Nat) (a1 a2:Int) (a3:List ByteArray) (a4:List Int) (a5 a6:Int) (a7:ByteArray) (a8 a9:List zh) (a10:Int) (a11:List zh) (a12:List GPred) (a13:List (List GStep)) (a14:List GBy) (a15:List ByteArray):Option Bool:=
 (match zcb t n n a1 a13 (a13.length:Int) 0 a2 a3 a4 a5 a6 a7 a8 a9 a10 a11 a12 a13 a14 a15 with
 | some (.inl a16)=>
 some a16
 | some (.inr (a17,a18,a19,a20,a21,a22,a23,a24,a25,a26,a27,a28,a29,a30,a31,a32,a33,a34,a35))=>
 zdC t n a17 a22 a23 a24 a25 a26 a27 a28 a29 a30 a31 a32 a33 a34 a35
 | none=>none)
def zdk (t:Tab) (n:Nat):GStep→Int→Option Bool
 | ⟨a1,a2,a3,⟨a4,a5,a6,a7,a8⟩,⟨a9,a10,a11⟩,a12,a13,a14⟩,a15=>
 (match t.zc1 a1 with
 | some a16=>
 if (a16.toList==(ByteArray.mk #[]).toList)=true then
 some false
 else
 (match t.zb5 with
 | some ⟨⟨⟨a17,a18⟩,⟨a19,a20⟩,⟨a21,a22⟩,⟨a23,a24⟩,a25,a26⟩,⟨⟨a27,a28⟩,⟨a29,a30⟩,⟨a31,a32⟩,⟨a33,a34⟩,a35,a36⟩,⟨⟨a37,a38⟩,⟨a39,a40⟩,⟨a41,a42⟩,⟨a43,a44⟩,a45,a46⟩,⟨⟨a47,a48⟩,⟨a49,a50⟩,⟨a51,a52⟩,⟨a53,a54⟩,a55,a56⟩,⟨⟨a57,a58⟩,⟨a59,a60⟩,⟨a61,a62⟩,⟨a63,a64⟩,a65,a66⟩,⟨⟨a67,a68⟩,⟨a69,a70⟩,⟨a71,a72⟩,⟨a73,a74⟩,a75,a76⟩,⟨⟨a77,a78⟩,⟨a79,a80⟩,⟨a81,a82⟩,⟨a83,a84⟩,a85,a86⟩,⟨⟨a87,a88⟩,⟨a89,a90⟩,⟨a91,a92⟩,⟨a93,a94⟩,a95,a96⟩,⟨⟨a97,a98⟩,⟨a99,a100⟩,⟨a101,a102⟩,⟨a103,a104⟩,a105,a106⟩,⟨⟨a107,a108⟩,⟨a109,a110⟩,⟨a111,a112⟩,⟨a113,a114⟩,a115,a116⟩,⟨⟨a117,a118⟩,⟨a119,a120⟩,⟨a121,a122⟩,⟨a123,a124⟩,a125,a126⟩,⟨⟨a127,a128⟩,⟨a129,a130⟩,⟨a131,a132⟩,⟨a133,a134⟩,a135,a136⟩,⟨⟨a137,a138⟩,⟨a139,a140⟩,⟨a141,a142⟩,⟨a143,a144⟩,a145,a146⟩,⟨⟨a147,a148⟩,⟨a149,a150⟩,⟨a151,a152⟩,⟨a153,a154⟩,a155,a156⟩,⟨⟨a157,a158⟩,⟨a159,a160⟩,⟨a161,a162⟩,⟨a163,a164⟩,a165,a166⟩,⟨⟨a167,a168⟩,⟨a169,a170⟩,⟨a171,a172⟩,⟨a173,a174⟩,a175,a176⟩,⟨⟨a177,a178⟩,⟨a179,a180⟩,⟨a181,a182⟩,⟨a183,a184⟩,a185,a186⟩,⟨⟨a187,a188⟩,⟨a189,a190⟩,⟨a191,a192⟩,⟨a193,a194⟩,a195,a196⟩,⟨⟨a197,a198⟩,⟨a199,a200⟩,⟨a201,a202⟩,⟨a203,a204⟩,a205,a206⟩,⟨⟨a207,a208⟩,⟨a209,a210⟩,⟨a211,a212⟩,⟨a213,a214⟩,a215,a216⟩,⟨⟨a217,a218⟩,⟨a219,a220⟩,⟨a221,a222⟩,⟨a223,a224⟩,a225,a226⟩,⟨⟨a227,a228⟩,⟨a229,a230⟩,⟨a231,a232⟩,⟨a233,a234⟩,a235,a236⟩,⟨⟨a237,a238⟩,⟨a239,a240⟩,⟨a241,a242⟩,⟨a243,a244⟩,a245,a246⟩,⟨⟨a247,a248⟩,⟨a249,a250⟩,⟨a251,a252⟩,⟨a253,a254⟩,a255,a256⟩,⟨⟨a257,a258⟩,⟨a259,a260⟩,⟨a261,a262⟩,⟨a263,a264⟩,a265,a266⟩,⟨⟨a267,a268⟩,⟨a269,a270⟩,⟨a271,a272⟩,⟨a273,a274⟩,a275,a276⟩,⟨⟨a277,a278⟩,⟨a279,a280⟩,⟨a281,a282⟩,⟨a283,a284⟩,a285,a286⟩,⟨⟨a287,a288⟩,⟨a289,a290⟩,⟨a291,a292⟩,⟨a293,a294⟩,a295,a296⟩,⟨⟨a297,a298⟩,⟨a299,a300⟩,⟨a301,a302⟩,⟨a303,a304⟩,a305,a306⟩,⟨⟨a307,a308⟩,⟨a309,a310⟩,⟨a311,a312⟩,⟨a313,a314⟩,a315,a316⟩,⟨⟨a317,a318⟩,⟨a319,a320⟩,⟨a321,a322⟩,⟨a323,a324⟩,a325,a326⟩,⟨⟨a327,a328⟩,⟨a329,a330⟩,⟨a331,a332⟩,⟨a333,a334⟩,a335,a336⟩,⟨⟨a337,a338⟩,⟨a339,a340⟩,⟨a341,a342⟩,⟨a343,a344⟩,a345,a346⟩,⟨⟨a347,a348⟩,⟨a349,a350⟩,⟨a351,a352⟩,⟨a353,a354⟩,a355,a356⟩,⟨⟨a357,a358⟩,⟨a359,a360⟩,⟨a361,a362⟩,⟨a363,a364⟩,a365,a366⟩,⟨⟨a367,a368⟩,⟨a369,a370⟩,⟨a371,a372⟩,⟨a373,a374⟩,a375,a376⟩,⟨⟨a377,a378⟩,⟨a379,a380⟩,⟨a381,a382⟩,⟨a383,a384⟩,a385,a386⟩,⟨⟨a387,a388⟩,⟨a389,a390⟩,⟨a391,a392⟩,⟨a393,a394⟩,a395,a396⟩,⟨⟨a397,a398⟩,⟨a399,a400⟩,⟨a401,a402⟩,⟨a403,a404⟩,a405,a406⟩,⟨⟨a407,a408⟩,⟨a409,a410⟩,⟨a411,a412⟩,⟨a413,a414⟩,a415,a416⟩,⟨⟨a417,a418⟩,⟨a419,a420⟩,⟨a421,a422⟩,⟨a423,a424⟩,a425,a426⟩,⟨⟨a427,a428⟩,⟨a429,a430⟩,⟨a431,a432⟩,⟨a433,a434⟩,a435,a436⟩,⟨⟨a437,a438⟩,⟨a439,a440⟩,⟨a441,a442⟩,⟨a443,a444⟩,a445,a446⟩,⟨⟨a447,a448⟩,⟨a449,a450⟩,⟨a451,a452⟩,⟨a453,a454⟩,a455,a456⟩,⟨⟨a457,a458⟩,⟨a459,a460⟩,⟨a461,a462⟩,⟨a463,a464⟩,a465,a466⟩,⟨⟨a467,a468⟩,⟨a469,a470⟩,⟨a471,a472⟩,⟨a473,a474⟩,a475,a476⟩,⟨⟨a477,a478⟩,⟨a479,a480⟩,⟨a481,a482⟩,⟨a483,a484⟩,a485,a486⟩,⟨⟨a487,a488⟩,⟨a489,a490⟩,⟨a491,a492⟩,⟨a493,a494⟩,a495,a496⟩,⟨⟨a497,a498⟩,⟨a499,a500⟩,⟨a501,a502⟩,⟨a503,a504⟩,a505,a506⟩,⟨⟨a507,a508⟩,⟨a509,a510⟩,⟨a511,a512⟩,⟨a513,a514⟩,a515,a516⟩,⟨⟨a517,a518⟩,⟨a519,a520⟩,⟨a521,a522⟩,⟨a523,a524⟩,a525,a526⟩,⟨⟨a527,a528⟩,⟨a529,a530⟩,⟨a531,a532⟩,⟨a533,a534⟩,a535,a536⟩⟩=>
 if (decide (0≤(a1:Int)∧(a1:Int) < ((52:Nat):Int)))=true then
 (match ([(zm.mk (GT105.mk a17 a18) (GT105.mk a19 a20) (GT105.mk a21 a22) (GT105.mk a23 a24) a25 a26),(zm.mk (GT105.mk a27 a28) (GT105.mk a29 a30) (GT105.mk a31 a32) (GT105.mk a33 a34) a35 a36),(zm.mk (GT105.mk a37 a38) (GT105.mk a39 a40) (GT105.mk a41 a42) (GT105.mk a43 a44) a45 a46),(zm.mk (GT105.mk a47 a48) (GT105.mk a49 a50) (GT105.mk a51 a52) (GT105.mk a53 a54) a55 a56),(zm.mk (GT105.mk a57 a58) (GT105.mk a59 a60) (GT105.mk a61 a62) (GT105.mk a63 a64) a65 a66),(zm.mk (GT105.mk a67 a68) (GT105.mk a69 a70) (GT105.mk a71 a72) (GT105.mk a73 a74) a75 a76),(zm.mk (GT105.mk a77 a78) (GT105.mk a79 a80) (GT105.mk a81 a82) (GT105.mk a83 a84) a85 a86),(zm.mk (GT105.mk a87 a88) (GT105.mk a89 a90) (GT105.mk a91 a92) (GT105.mk a93 a94) a95 a96),(zm.mk (GT105.mk a97 a98) (GT105.mk a99 a100) (GT105.mk a101 a102) (GT105.mk a103 a104) a105 a106),(zm.mk (GT105.mk a107 a108) (GT105.mk a109 a110) (GT105.mk a111 a112) (GT105.mk a113 a114) a115 a116),(zm.mk (GT105.mk a117 a118) (GT105.mk a119 a120) (GT105.mk a121 a122) (GT105.mk a123 a124) a125 a126),(zm.mk (GT105.mk a127 a128) (GT105.mk a129 a130) (GT105.mk a131 a132) (GT105.mk a133 a134) a135 a136),(zm.mk (GT105.mk a137 a138) (GT105.mk a139 a140) (GT105.mk a141 a142) (GT105.mk a143 a144) a145 a146),(zm.mk (GT105.mk a147 a148) (GT105.mk a149 a150) (GT105.mk a151 a152) (GT105.mk a153 a154) a155 a156),(zm.mk (GT105.mk a157 a158) (GT105.mk a159 a160) (GT105.mk a161 a162) (GT105.mk a163 a164) a165 a166),(zm.mk (GT105.mk a167 a168) (GT105.mk a169 a170) (GT105.mk a171 a172) (GT105.mk a173 a174) a175 a176),(zm.mk (GT105.mk a177 a178) (GT105.mk a179 a180) (GT105.mk a181 a182) (GT105.mk a183 a184) a185 a186),(zm.mk (GT105.mk a187 a188) (GT105.mk a189 a190) (GT105.mk a191 a192) (GT105.mk a193 a194) a195 a196),(zm.mk (GT105.mk a197 a198) (GT105.mk a199 a200) (GT105.mk a201 a202) (GT105.mk a203 a204) a205 a206),(zm.mk (GT105.mk a207 a208) (GT105.mk a209 a210) (GT105.mk a211 a212) (GT105.mk a213 a214) a215 a216),(zm.mk (GT105.mk a217 a218) (GT105.mk a219 a220) (GT105.mk a221 a222) (GT105.mk a223 a224) a225 a226),(zm.mk (GT105.mk a227 a228) (GT105.mk a229 a230) (GT105.mk a231 a232) (GT105.mk a233 a234) a235 a236),(zm.mk (GT105.mk a237 a238) (GT105.mk a239 a240) (GT105.mk a241 a242) (GT105.mk a243 a244) a245 a246),(zm.mk (GT105.mk a247 a248) (GT105.mk a249 a250) (GT105.mk a251 a252) (GT105.mk a253 a254) a255 a256),(zm.mk (GT105.mk a257 a258) (GT105.mk a259 a260) (GT105.mk a261 a262) (GT105.mk a263 a264) a265 a266),(zm.mk (GT105.mk a267 a268) (GT105.mk a269 a270) (GT105.mk a271 a272) (GT105.mk a273 a274) a275 a276),(zm.mk (GT105.mk a277 a278) (GT105.mk a279 a280) (GT105.mk a281 a282) (GT105.mk a283 a284) a285 a286),(zm.mk (GT105.mk a287 a288) (GT105.mk a289 a290) (GT105.mk a291 a292) (GT105.mk a293 a294) a295 a296),(zm.mk (GT105.mk a297 a298) (GT105.mk a299 a300) (GT105.mk a301 a302) (GT105.mk a303 a304) a305 a306),(zm.mk (GT105.mk a307 a308) (GT105.mk a309 a310) (GT105.mk a311 a312) (GT105.mk a313 a314) a315 a316),(zm.mk (GT105.mk a317 a318) (GT105.mk a319 a320) (GT105.mk a321 a322) (GT105.mk a323 a324) a325 a326),(zm.mk (GT105.mk a327 a328) (GT105.mk a329 a330) (GT105.mk a331 a332) (GT105.mk a333 a334) a335 a336),(zm.mk (GT105.mk a337 a338) (GT105.mk a339 a340) (GT105.mk a341 a342) (GT105.mk a343 a344) a345 a346),(zm.mk (GT105.mk a347 a348) (GT105.mk a349 a350) (GT105.mk a351 a352) (GT105.mk a353 a354) a355 a356),(zm.mk (GT105.mk a357 a358) (GT105.mk a359 a360) (GT105.mk a361 a362) (GT105.mk a363 a364) a365 a366),(zm.mk (GT105.mk a367 a368) (GT105.mk a369 a370) (GT105.mk a371 a372) (GT105.mk a373 a374) a375 a376),(zm.mk (GT105.mk a377 a378) (GT105.mk a379 a380) (GT105.mk a381 a382) (GT105.mk a383 a384) a385 a386),(zm.mk (GT105.mk a387 a388) (GT105.mk a389 a390) (GT105.mk a391 a392) (GT105.mk a393 a394) a395 a396),(zm.mk (GT105.mk a397 a398) (GT105.mk a399 a400) (GT105.mk a401 a402) (GT105.mk a403 a404) a405 a406),(zm.mk (GT105.mk a407 a408) (GT105.mk a409 a410) (GT105.mk a411 a412) (GT105.mk a413 a414) a415 a416),(zm.mk (GT105.mk a417 a418) (GT105.mk a419 a420) (GT105.mk a421 a422) (GT105.mk a423 a424) a425 a426),(zm.mk (GT105.mk a427 a428) (GT105.mk a429 a430) (GT105.mk a431 a432) (GT105.mk a433 a434) a435 a436),(zm.mk (GT105.mk a437 a438) (GT105.mk a439 a440) (GT105.mk a441 a442) (GT105.mk a443 a444) a445 a446),(zm.mk (GT105.mk a447 a448) (GT105.mk a449 a450) (GT105.mk a451 a452) (GT105.mk a453 a454) a455 a456),(zm.mk (GT105.mk a457 a458) (GT105.mk a459 a460) (GT105.mk a461 a462) (GT105.mk a463 a464) a465 a466),(zm.mk (GT105.mk a467 a468) (GT105.mk a469 a470) (GT105.mk a471 a472) (GT105.mk a473 a474) a475 a476),(zm.mk (GT105.mk a477 a478) (GT105.mk a479 a480) (GT105.mk a481 a482) (GT105.mk a483 a484) a485 a486),(zm.mk (GT105.mk a487 a488) (GT105.mk a489 a490) (GT105.mk a491 a492) (GT105.mk a493 a494) a495 a496),(zm.mk (GT105.mk a497 a498) (GT105.mk a499 a500) (GT105.mk a501 a502) (GT105.mk a503 a504) a505 a506),(zm.mk (GT105.mk a507 a508) (GT105.mk a509 a510) (GT105.mk a511 a512) (GT105.mk a513 a514) a515 a516),(zm.mk (GT105.mk a517 a518) (GT105.mk a519 a520) (GT105.mk a521 a522) (GT105.mk a523 a524) a525 a526),(zm.mk (GT105.mk a527 a528) (GT105.mk a529 a530) (GT105.mk a531 a532) (GT105.mk a533 a534) a535 a536)]:List zm)[(a1:Int).toNat]? with
 | some ⟨⟨a537,a538⟩,⟨a539,a540⟩,⟨a541,a542⟩,⟨a543,a544⟩,a545,a546⟩=>
 (match t.zc9 (a2.length:Int) (GT105.mk a537 a538)with
 | some a547=>
 if a547=true then
 (match t.zc9 (a3.length:Int) (GT105.mk a539 a540)with
 | some a548=>
 if a548=true then
 (match t.zc9 (a12.length:Int) (GT105.mk a541 a542)with
 | some a549=>
 if a549=true then
 (match t.zc9 (a13.length:Int) (GT105.mk a543 a544)with
 | some a550=>
 if a550=true then
 (match zaC t n a15 (decide ((a14.length:Int) > 50)) a1 a2 a3 a4 a5 a6 a7 a8 a9 a10 a11 a12 a13 a14 a537 a538 a539 a540 a541 a542 a543 a544 a545 a546 with
 | some (.inl a551)=>
 some a551
 | some (.inr (a552,a553,a554,a555,a556,a557,a558,a559,a560,a561,a562,a563,a564,a565,a566))=>
 zbz t n a552 a553 a554 a555 a556 a557 a558 a559 a560 a561 a562 a563 a564 a565 a566
 | none=>none)
 else
 (match zaC t n a15 true a1 a2 a3 a4 a5 a6 a7 a8 a9 a10 a11 a12 a13 a14 a537 a538 a539 a540 a541 a542 a543 a544 a545 a546 with
 | some (.inl a568)=>
 some a568
 | some (.inr (a569,a570,a571,a572,a573,a574,a575,a576,a577,a578,a579,a580,a581,a582,a583))=>
 zbz t n a569 a570 a571 a572 a573 a574 a575 a576 a577 a578 a579 a580 a581 a582 a583
 | none=>none)
 | none=>none)
 else
 (match zaC t n a15 true a1 a2 a3 a4 a5 a6 a7 a8 a9 a10 a11 a12 a13 a14 a537 a538 a539 a540 a541 a542 a543 a544 a545 a546 with
 | some (.inl a585)=>
 some a585
 | some (.inr (a586,a587,a588,a589,a590,a591,a592,a593,a594,a595,a596,a597,a598,a599,a600))=>
 zbz t n a586 a587 a588 a589 a590 a591 a592 a593 a594 a595 a596 a597 a598 a599 a600
 | none=>none)
 | none=>none)
 else
 (match zaC t n a15 true a1 a2 a3 a4 a5 a6 a7 a8 a9 a10 a11 a12 a13 a14 a537 a538 a539 a540 a541 a542 a543 a544 a545 a546 with
 | some (.inl a602)=>
 some a602
 | some (.inr (a603,a604,a605,a606,a607,a608,a609,a610,a611,a612,a613,a614,a615,a616,a617))=>
 zbz t n a603 a604 a605 a606 a607 a608 a609 a610 a611 a612 a613 a614 a615 a616 a617
 | none=>none)
 | none=>none)
 else
 (match zaC t n a15 true a1 a2 a3 a4 a5 a6 a7 a8 a9 a10 a11 a12 a13 a14 a537 a538 a539 a540 a541 a542 a543 a544 a545 a546 with
 | some (.inl a619)=>
 some a619
 | some (.inr (a620,a621,a622,a623,a624,a625,a626,a627,a628,a629,a630,a631,a632,a633,a634))=>
 zbz t n a620 a621 a622 a623 a624 a625 a626 a627 a628 a629 a630 a631 a632 a633 a634
 | none=>none)
 | none=>none)
 | none=>none)
 else none
 | none=>none)
 | none=>none)
def zdc (t:Tab) (n:Nat):zh→zh→Option Int
 | ⟨a1,a2,a3,a4,a5⟩,⟨a6,a7,a8,a9,a10⟩=>
 t.zbb (zh.mk a1 a2 a3 a4 a5) (zh.mk a6 a7 a8 a9 a10) 1
def zar (t:Tab) (n:Nat):Nat→(List zh)→(List zh)→Int→Int→Option (Bool⊕((List zh) × (List zh) × Int × Int × Bool))
 | 0,_,_,_,_=>none
 | k+1,a1,a2,a3,a4=>
 if (decide (a4 < a3))=true then
 if (decide (0≤(a4:Int)))=true then
 (match a2[(a4:Int).toNat]? with
 | some ⟨a5,a6,a7,a8,a9⟩=>
 (match a1[(a4:Int).toNat]? with
 | some ⟨a10,a11,a12,a13,a14⟩=>
 (match t.zbk (zh.mk a5 a6 a7 a8 a9) (zh.mk a10 a11 a12 a13 a14)with
 | some a15=>
 if a15=true then
 zar t n k a1 a2 a3 (IntKind.wrap .i64 (a4+1))
 else
 some (.inl false)
 | none=>none)
 | none=>none)
 | none=>none)
 else none
 else
 some (.inr (a1,a2,a3,a4,(decide (a4 < a3))))
def zax (t:Tab) (n:Nat):(List zh)→(List zh)→Option Bool
 | a1,a2=>
 if ((a1.length:Int) !=(a2.length:Int))=true then
 some false
 else
 (match zar t n n a2 a1 (a1.length:Int) 0 with
 | some (.inl a3)=>
 some a3
 | some (.inr (a4,a5,a6,a7,a8))=>
 some true
 | none=>none)
def zY (t:Tab) (n:Nat):Nat→(List GPred)→(List GPred)→Int→Int→Option (Bool⊕((List GPred) × (List GPred) × Int × Int × Bool))
 | 0,_,_,_,_=>none
 | k+1,a1,a2,a3,a4=>
 if (decide (a4 < a3))=true then
 if (decide (0≤(a4:Int)))=true then
 (match a2[(a4:Int).toNat]? with
 | some ⟨a5,a6,a7⟩=>
 (match a1[(a4:Int).toNat]? with
 | some ⟨a8,a9,a10⟩=>
 (match t.zbW (GPred.mk a5 a6 a7) (GPred.mk a8 a9 a10)with
 | some a11=>
 if a11=true then
 zY t n k a1 a2 a3 (IntKind.wrap .i64 (a4+1))
 else
 some (.inl false)
 | none=>none)
 | none=>none)
 | none=>none)
 else none
 else
 some (.inr (a1,a2,a3,a4,(decide (a4 < a3))))
def zat (t:Tab) (n:Nat):(List GPred)→(List GPred)→Option Bool
 | a1,a2=>
 if ((a1.length:Int) !=(a2.length:Int))=true then
 some false
 else
 (match zY t n n a2 a1 (a1.length:Int) 0 with
 | some (.inl a3)=>
 some a3
 | some (.inr (a4,a5,a6,a7,a8))=>
 some true
 | none=>none)
def zc1 (t:Tab) (n:Nat):Int→Option ByteArray
 | a1=>
 if (decide (a1 < 1))=true then
 some (ByteArray.mk #[])
 else
 if (decide (a1 > 51))=true then
 some (ByteArray.mk #[])
 else
 if (decide (0≤(a1:Int)∧(a1:Int) < ((52:Nat):Int)))=true then
 (match gl0[(a1:Int).toNat]? with
 | some a2=>
 some a2
 | none=>none)
 else none
def zb5 (t:Tab) (n:Nat):Option GT108:=
 some (GT108.mk (zm.mk (GT105.mk 0 0) (GT105.mk 0 0) (GT105.mk 0 0) (GT105.mk 0 0) false false) (zm.mk (GT105.mk 0 0) (GT105.mk 0 50) (GT105.mk 0 0) (GT105.mk 0 0) false false) (zm.mk (GT105.mk 0 0) (GT105.mk 0 50) (GT105.mk 0 0) (GT105.mk 0 0) false false) (zm.mk (GT105.mk 0 50) (GT105.mk 0 0) (GT105.mk 0 0) (GT105.mk 0 0) false false) (zm.mk (GT105.mk 0 50) (GT105.mk 0 0) (GT105.mk 0 0) (GT105.mk 0 0) false false) (zm.mk (GT105.mk 0 50) (GT105.mk 0 0) (GT105.mk 0 0) (GT105.mk 0 0) false false) (zm.mk (GT105.mk 0 50) (GT105.mk 0 0) (GT105.mk 0 0) (GT105.mk 0 0) false false) (zm.mk (GT105.mk 0 50) (GT105.mk 0 0) (GT105.mk 0 0) (GT105.mk 0 0) false false) (zm.mk (GT105.mk 0 50) (GT105.mk 0 0) (GT105.mk 0 0) (GT105.mk 0 0) false false) (zm.mk (GT105.mk 0 0) (GT105.mk 0 0) (GT105.mk 0 0) (GT105.mk 0 0) false false) (zm.mk (GT105.mk 0 0) (GT105.mk 0 0) (GT105.mk 0 0) (GT105.mk 0 0) false false) (zm.mk (GT105.mk 0 0) (GT105.mk 0 0) (GT105.mk 0 0) (GT105.mk 0 0) false false) (zm.mk (GT105.mk 0 0) (GT105.mk 0 0) (GT105.mk 0 0) (GT105.mk 0 0) false false) (zm.mk (GT105.mk 0 0) (GT105.mk 0 0) (GT105.mk 0 0) (GT105.mk 0 0) false false) (zm.mk (GT105.mk 0 50) (GT105.mk 0 0) (GT105.mk 0 0) (GT105.mk 0 0) false false) (zm.mk (GT105.mk 0 0) (GT105.mk 0 0) (GT105.mk 0 0) (GT105.mk 0 0) true false) (zm.mk (GT105.mk 0 0) (GT105.mk 0 0) (GT105.mk 0 0) (GT105.mk 0 0) false false) (zm.mk (GT105.mk 1 50) (GT105.mk 0 0) (GT105.mk 0 0) (GT105.mk 0 0) false false) (zm.mk (GT105.mk 1 1) (GT105.mk 0 0) (GT105.mk 0 0) (GT105.mk 0 0) false true) (zm.mk (GT105.mk 1 1) (GT105.mk 0 0) (GT105.mk 0 0) (GT105.mk 0 0) false false) (zm.mk (GT105.mk 1 1) (GT105.mk 0 0) (GT105.mk 0 0) (GT105.mk 0 0) false false) (zm.mk (GT105.mk 0 0) (GT105.mk 1 50) (GT105.mk 0 0) (GT105.mk 0 0) false false) (zm.mk (GT105.mk 0 0) (GT105.mk 0 0) (GT105.mk 0 0) (GT105.mk 0 0) false true) (zm.mk (GT105.mk 0 0) (GT105.mk 0 0) (GT105.mk 0 0) (GT105.mk 0 0) false false) (zm.mk (GT105.mk 0 0) (GT105.mk 2 2) (GT105.mk 0 0) (GT105.mk 0 0) false false) (zm.mk (GT105.mk 0 0) (GT105.mk 1 1) (GT105.mk 0 0) (GT105.mk 0 0) false false) (zm.mk (GT105.mk 0 0) (GT105.mk 0 0) (GT105.mk 0 0) (GT105.mk 0 0) false false) (zm.mk (GT105.mk 0 0) (GT105.mk 0 0) (GT105.mk 0 0) (GT105.mk 0 0) false false) (zm.mk (GT105.mk 0 0) (GT105.mk 0 0) (GT105.mk 1 1) (GT105.mk 0 0) false false) (zm.mk (GT105.mk 0 0) (GT105.mk 0 0) (GT105.mk 1 1) (GT105.mk 0 0) false false) (zm.mk (GT105.mk 0 0) (GT105.mk 0 0) (GT105.mk 1 50) (GT105.mk 0 0) false false) (zm.mk (GT105.mk 0 0) (GT105.mk 0 0) (GT105.mk 1 50) (GT105.mk 0 0) false false) (zm.mk (GT105.mk 0 0) (GT105.mk 0 0) (GT105.mk 0 0) (GT105.mk 0 0) false false) (zm.mk (GT105.mk 0 0) (GT105.mk 0 0) (GT105.mk 0 0) (GT105.mk 0 0) false false) (zm.mk (GT105.mk 0 0) (GT105.mk 0 0) (GT105.mk 0 0) (GT105.mk 0 0) false false) (zm.mk (GT105.mk 0 0) (GT105.mk 0 0) (GT105.mk 0 0) (GT105.mk 0 0) false false) (zm.mk (GT105.mk 0 0) (GT105.mk 0 0) (GT105.mk 0 0) (GT105.mk 0 0) false false) (zm.mk (GT105.mk 0 0) (GT105.mk 0 0) (GT105.mk 0 0) (GT105.mk 0 0) false false) (zm.mk (GT105.mk 0 0) (GT105.mk 0 0) (GT105.mk 0 0) (GT105.mk 0 0) false false) (zm.mk (GT105.mk 1 50) (GT105.mk 0 0) (GT105.mk 0 0) (GT105.mk 0 0) false false) (zm.mk (GT105.mk 0 0) (GT105.mk 0 0) (GT105.mk 0 0) (GT105.mk 0 50) false false) (zm.mk (GT105.mk 0 0) (GT105.mk 0 0) (GT105.mk 0 0) (GT105.mk 0 2) false false) (zm.mk (GT105.mk 0 0) (GT105.mk 0 0) (GT105.mk 0 0) (GT105.mk 0 1) false false) (zm.mk (GT105.mk 1 50) (GT105.mk 0 0) (GT105.mk 0 0) (GT105.mk 0 50) false false) (zm.mk (GT105.mk 0 0) (GT105.mk 0 0) (GT105.mk 1 50) (GT105.mk 0 0) false false) (zm.mk (GT105.mk 0 0) (GT105.mk 0 0) (GT105.mk 1 50) (GT105.mk 0 0) false false) (zm.mk (GT105.mk 0 0) (GT105.mk 0 0) (GT105.mk 3 3) (GT105.mk 0 0) false false) (zm.mk (GT105.mk 0 0) (GT105.mk 0 0) (GT105.mk 1 1) (GT105.mk 0 0) false false) (zm.mk (GT105.mk 0 0) (GT105.mk 2 2) (GT105.mk 1 2) (GT105.mk 0 0) false false) (zm.mk (GT105.mk 1 1) (GT105.mk 0 0) (GT105.mk 0 0) (GT105.mk 0 0) false false) (zm.mk (GT105.mk 1 1) (GT105.mk 0 0) (GT105.mk 0 0) (GT105.mk 0 0) false false) (zm.mk (GT105.mk 0 0) (GT105.mk 0 0) (GT105.mk 0 0) (GT105.mk 0 0) false false))
def zc9 (t:Tab) (n:Nat):Int→GT105→Option Bool
 | a1,⟨a2,a3⟩=>
 if (decide (a1≥a2))=true then
 some (decide (a1≤a3))
 else
 some false
def zz (t:Tab) (n:Nat):(List ByteArray)→Option Bool
 | a1=>
 (match t.zah a1 with
 | some a2=>
 some (decide (a2≥0))
 | none=>none)
def zbA (t:Tab) (n:Nat):zh→Option Int
 | ⟨a1,a2,a3,a4,a5⟩=>
 (match t.zbc (zh.mk a1 a2 a3 a4 a5) 1 with
 | some a6=>
 if a6=true then
 some 0
 else
 some 2
 | none=>none)
def zcp (t:Tab) (n:Nat):GPred→Option Int
 | ⟨a1,a2,a3⟩=>
 (match t.zbY (GPred.mk a1 a2 a3) 1 with
 | some a4=>
 if a4=true then
 some 0
 else
 some 2
 | none=>none)
def zbG (t:Tab) (n:Nat):Nat→(List ByteArray)→(List ByteArray)→Int→Int→Option (Bool⊕((List ByteArray) × (List ByteArray) × Int × Int × Bool))
 | 0,_,_,_,_=>none
 | k+1,a1,a2,a3,a4=>
 if (decide (a4 < a3))=true then
 if (decide (0≤(a4:Int)))=true then
 (match a2[(a4:Int).toNat]? with
 | some a5=>
 if (decide (0≤(0:Int)∧(0:Int)≤(a4:Int)∧(a4:Int)≤(a1.length:Int)))=true then
 (match t.slices_Contains_string ((a1.take (a4:Int).toNat).drop (0:Int).toNat) a5 with
 | some a6=>
 if a6=true then
 some (.inl true)
 else
 zbG t n k a1 a2 a3 (IntKind.wrap .i64 (a4+1))
 | none=>none)
 else none
 | none=>none)
 else none
 else
 some (.inr (a1,a2,a3,a4,(decide (a4 < a3))))
def zbX (t:Tab) (n:Nat):(List ByteArray)→Option Bool
 | a1=>
 (match zbG t n n a1 a1 (a1.length:Int) 0 with
 | some (.inl a2)=>
 some a2
 | some (.inr (a3,a4,a5,a6,a7))=>
 some false
 | none=>none)
def zcd (t:Tab) (n:Nat):GPred→Option Bool
 | ⟨a1,a2,a3⟩=>
 if (a1==0)=true then
 some ((IntKind.wrap .i64 ((a2.length:Int)+(a3.length:Int)))==0)
 else
 some false
def zao (t:Tab) (n:Nat) (a1:Bool) (a2:Int) (a3:List ByteArray) (a4:List Int) (a5 a6:Int) (a7:ByteArray) (a8 a9:List zh) (a10:Int) (a11:List zh) (a12:List GPred) (a13:List (List GStep)) (a14:List GBy) (a15:List ByteArray):Option (Bool⊕Unit):=
 if a1=true then
 if (a2==21)=true then
 some (.inl true)
 else
 (match t.zH a4 with
 | some a16=>
 some (.inl (!a16))
 | none=>none)
 else
 some (.inr ())
def zbn (t:Tab) (n:Nat):GStep→Option Bool
 | ⟨a1,a2,a3,⟨a4,a5,a6,a7,a8⟩,⟨a9,a10,a11⟩,a12,a13,a14⟩=>
 if (a1==24)=true then
 if (decide (0≤(0:Int)))=true then
 (match a3[(0:Int).toNat]? with
 | some a15=>
 if (decide (a15≥0))=true then
 if (decide (0≤(1:Int)))=true then
 (match a3[(1:Int).toNat]? with
 | some a16=>
 if (a16==(-1))=true then
 some true
 else
 some (decide (a16≥a15))
 | none=>none)
 else none
 else
 some false
 | none=>none)
 else none
 else
 if (a1==48)=true then
 if (decide (0≤(0:Int)))=true then
 (match a3[(0:Int).toNat]? with
 | some a17=>
 if (decide (a17≥(-1)))=true then
 if (decide (0≤(1:Int)))=true then
 (match a3[(1:Int).toNat]? with
 | some a18=>
 if (decide (a18≥0))=true then
 if (decide (a18≤1))=true then
 if ((a12.length:Int)==2)=true then
 some true
 else
 some (decide (a17≥0))
 else
 some false
 else
 some false
 | none=>none)
 else none
 else
 some false
 | none=>none)
 else none
 else
 if (a1==1)=true then
 (match zao t n (a1==1) a1 a2 a3 a4 a5 a6 a7 a8 a9 a10 a11 a12 a13 a14 with
 | some (.inl a19)=>
 some a19
 | some (.inr ())=>
 some true
 | none=>none)
 else
 if (a1==2)=true then
 (match zao t n (a1==2) a1 a2 a3 a4 a5 a6 a7 a8 a9 a10 a11 a12 a13 a14 with
 | some (.inl a20)=>
 some a20
 | some (.inr ())=>
 some true
 | none=>none)
 else
 if (a1==21)=true then
 (match zao t n (a1==21) a1 a2 a3 a4 a5 a6 a7 a8 a9 a10 a11 a12 a13 a14 with
 | some (.inl a21)=>
 some a21
 | some (.inr ())=>
 some true
 | none=>none)
 else
 (match zao t n (a1==25) a1 a2 a3 a4 a5 a6 a7 a8 a9 a10 a11 a12 a13 a14 with
 | some (.inl a22)=>
 some a22
 | some (.inr ())=>
 some true
 | none=>none)
def zbl (t:Tab) (n:Nat) (a1 a2:Int) (a3:ByteArray) (a4:List GStep) (a5:Bool):Option Bool:=
 if (a2==1)=true then
 some true
 else
 if (a2==2)=true then
 t.zcq a3
 else
 if (a2==3)=true then
 t.zaY a4 (IntKind.wrap .i64 (a1+1))
 else
 some false
def zdo (t:Tab) (n:Nat):GBy→Bool→Int→Option Bool
 | ⟨a1,a2,a3,a4⟩,a5,a6=>
 if a4=true then
 if a5=true then
 if (a1 !=2)=true then
 if (a2.toList==(ByteArray.mk #[]).toList)=true then
 if (a1 !=3)=true then
 if (decide ((a3.length:Int) > 0))=true then
 some false
 else
 zbl t n a6 a1 a2 a3 a4
 else
 zbl t n a6 a1 a2 a3 a4
 else
 some false
 else
 if (a1 !=3)=true then
 if (decide ((a3.length:Int) > 0))=true then
 some false
 else
 zbl t n a6 a1 a2 a3 a4
 else
 zbl t n a6 a1 a2 a3 a4
 else
 some false
 else
 if (a1 !=2)=true then
 if (a2.toList==(ByteArray.mk #[]).toList)=true then
 if (a1 !=3)=true then
 if (decide ((a3.length:Int) > 0))=true then
 some false
 else
 zbl t n a6 a1 a2 a3 a4
 else
 zbl t n a6 a1 a2 a3 a4
 else
 some false
 else
 if (a1 !=3)=true then
 if (decide ((a3.length:Int) > 0))=true then
 some false
 else
 zbl t n a6 a1 a2 a3 a4
 else
 zbl t n a6 a1 a2 a3 a4
def zc2 (t:Tab) (n:Nat) (a1 a2:Int) (a3:ByteArray) (a4 a5:List zh) (a6 a7:Int) (a8:ByteArray) (a9 a10:List zh) (a11:Int):Option Int:=
 (match t.zI a4 a9 a11 with
 | some a12=>
 (match t.zI a5 a10 a11 with
 | some a13=>
 t.zc0 ([a12,a13]:List Int)
 | none=>none)
 | none=>none)
def zbb (t:Tab) (n:Nat):zh→zh→Int→Option Int
 | ⟨a1,a2,a3,a4,a5⟩,⟨a6,a7,a8,a9,a10⟩,a11=>
 (match t.cmp_Compare_int a1 a6 with
 | some a12=>
 (match t.cmp_Compare_int a2 a7 with
 | some a13=>
 (match t.strings_Compare a3 a8 with
 | some a14=>
 (match t.zc0 ([a12,a13,a14]:List Int)with
 | some a15=>
 if (a15 !=0)=true then
 some a15
 else
 if (decide (a11 > 12))=true then
 some a15
 else
 zc2 t n a1 a2 a3 a4 a5 a6 a7 a8 a9 a10 a11
 | none=>none)
 | none=>none)
 | none=>none)
 | none=>none)
def zQ (t:Tab) (n:Nat):Nat→(List ByteArray)→Int→Int→Option (Int⊕((List ByteArray) × Int × Int × Bool))
 | 0,_,_,_=>none
 | k+1,a1,a2,a3=>
 if (decide (a3 < a2))=true then
 if (decide (0≤(a3:Int)))=true then
 (match a1[(a3:Int).toNat]? with
 | some a4=>
 (match t.zcl a4 with
 | some a5=>
 if a5=true then
 some (.inl a3)
 else
 zQ t n k a1 a2 (IntKind.wrap .i64 (a3+1))
 | none=>none)
 | none=>none)
 else none
 else
 some (.inr (a1,a2,a3,(decide (a3 < a2))))
def zah (t:Tab) (n:Nat):(List ByteArray)→Option Int
 | a1=>
 (match zQ t n n a1 (a1.length:Int) 0 with
 | some (.inl a2)=>
 some a2
 | some (.inr (a3,a4,a5,a6))=>
 some (-1)
 | none=>none)
def zaF (t:Tab) (n:Nat):Nat→Int→(List zh)→Int→Int→Int→Int→ByteArray→(List zh)→(List zh)→Option (Bool⊕(Int × (List zh) × Int × Int × Bool × Int × Int × ByteArray × (List zh) × (List zh)))
 | 0,_,_,_,_,_,_,_,_,_=>none
 | k+1,a1,a2,a3,a4,a5,a6,a7,a8,a9=>
 if (decide (a4 < a3))=true then
 if (decide (0≤(a4:Int)))=true then
 (match a2[(a4:Int).toNat]? with
 | some ⟨a10,a11,a12,a13,a14⟩=>
 (match t.zbc (zh.mk a10 a11 a12 a13 a14) (IntKind.wrap .i64 (a1+1))with
 | some a15=>
 if a15=true then
 if (a5==7)=true then
 if (decide (a4 > 0))=true then
 if (decide (a4 < (a8.length:Int)))=true then
 if (decide (0≤((IntKind.wrap .i64 (a4-1)):Int)))=true then
 (match a8[((IntKind.wrap .i64 (a4-1)):Int).toNat]? with
 | some ⟨a16,a17,a18,a19,a20⟩=>
 (match t.zdc (zh.mk a16 a17 a18 a19 a20) (zh.mk a10 a11 a12 a13 a14)with
 | some a21=>
 if (decide (a21≥0))=true then
 some (.inl false)
 else
 zaF t n k a1 a2 a3 (IntKind.wrap .i64 (a4+1)) a5 a6 a7 a8 a9
 | none=>none)
 | none=>none)
 else none
 else
 zaF t n k a1 a2 a3 (IntKind.wrap .i64 (a4+1)) a5 a6 a7 a8 a9
 else
 zaF t n k a1 a2 a3 (IntKind.wrap .i64 (a4+1)) a5 a6 a7 a8 a9
 else
 zaF t n k a1 a2 a3 (IntKind.wrap .i64 (a4+1)) a5 a6 a7 a8 a9
 else
 some (.inl false)
 | none=>none)
 | none=>none)
 else none
 else
 some (.inr (a1,a2,a3,a4,(decide (a4 < a3)),a5,a6,a7,a8,a9))
def za4 (t:Tab) (n:Nat) (a1 a2 a3:Int) (a4:ByteArray) (a5 a6:List zh):Option Bool:=
 (match t.zaz ([a5,a6]:List (List zh))with
 | some a7=>
 (match zaF t n n a1 a7 (a7.length:Int) 0 a2 a3 a4 a5 a6 with
 | some (.inl a8)=>
 some a8
 | some (.inr (a9,a10,a11,a12,a13,a14,a15,a16,a17,a18))=>
 some true
 | none=>none)
 | none=>none)
def zbB (t:Tab) (n:Nat) (a1 a2 a3:Int) (a4:ByteArray) (a5 a6:List zh):Option Bool:=
 if (decide ((a5.length:Int) > 1000))=true then
 some false
 else
 if (a2==7)=true then
 if ((a6.length:Int) !=(a5.length:Int))=true then
 some false
 else
 if (a2 !=7)=true then
 if (decide ((a6.length:Int) > 0))=true then
 some false
 else
 za4 t n a1 a2 a3 a4 a5 a6
 else
 za4 t n a1 a2 a3 a4 a5 a6
 else
 if (a2 !=7)=true then
 if (decide ((a6.length:Int) > 0))=true then
 some false
 else
 za4 t n a1 a2 a3 a4 a5 a6
 else
 za4 t n a1 a2 a3 a4 a5 a6
def zbm (t:Tab) (n:Nat) (a1:Int) (a2 a3:Bool) (a4 a5:Int) (a6:ByteArray) (a7 a8:List zh):Option Bool:=
 if a3=true then
 if (decide ((a6.size:Int) > 1000))=true then
 some false
 else
 if (a5 !=0)=true then
 some false
 else
 if a2=true then
 zbB t n a1 a4 a5 a6 a7 a8
 else
 if (decide ((IntKind.wrap .i64 ((a7.length:Int)+(a8.length:Int))) > 0))=true then
 some false
 else
 zbB t n a1 a4 a5 a6 a7 a8
 else
 if (a6.toList==(ByteArray.mk #[]).toList)=true then
 if (decide ((a6.size:Int) > 1000))=true then
 some false
 else
 if a2=true then
 if (a5 !=0)=true then
 some false
 else
 zbB t n a1 a4 a5 a6 a7 a8
 else
 if (decide ((IntKind.wrap .i64 ((a7.length:Int)+(a8.length:Int))) > 0))=true then
 some false
 else
 zbB t n a1 a4 a5 a6 a7 a8
 else
 some false
def zaO (t:Tab) (n:Nat) (a1:Int) (a2 a3:Bool) (a4:Int) (a5:Bool) (a6 a7:Int) (a8:ByteArray) (a9 a10:List zh):Option (Bool⊕(Int × Bool × Bool × Int × Int × ByteArray × (List zh) × (List zh))):=
 if a5=true then
 if (decide (a7 < 0))=true then
 some (.inl false)
 else
 some (.inr (a1,a2,a3,a6,a7,a8,a9,a10))
 else
 if (a4==3)=true then
 some (.inr (a1,a2,true,a6,a7,a8,a9,a10))
 else
 if (a4==6)=true then
 some (.inr (a1,true,a3,a6,a7,a8,a9,a10))
 else
 if (a4==8)=true then
 some (.inr (a1,true,a3,a6,a7,a8,a9,a10))
 else
 if (a4==7)=true then
 some (.inr (a1,true,a3,a6,a7,a8,a9,a10))
 else
 some (.inl false)
def zbc (t:Tab) (n:Nat):zh→Int→Option Bool
 | ⟨a1,a2,a3,a4,a5⟩,a6=>
 if (decide (a6 > 12))=true then
 some false
 else
 if (a1==1)=true then
 if (decide (a2 < 0))=true then
 some false
 else
 if (decide (a2 > 1))=true then
 some false
 else
 zbm t n a6 false false a1 a2 a3 a4 a5
 else
 if (a1==2)=true then
 zbm t n a6 false false a1 a2 a3 a4 a5
 else
 if (a1==4)=true then
 (match zaO t n a6 false false a1 (a1==4) a1 a2 a3 a4 a5 with
 | some (.inl a9)=>
 some a9
 | some (.inr (a10,a11,a12,a13,a14,a15,a16,a17))=>
 zbm t n a10 a11 a12 a13 a14 a15 a16 a17
 | none=>none)
 else
 (match zaO t n a6 false false a1 (a1==5) a1 a2 a3 a4 a5 with
 | some (.inl a19)=>
 some a19
 | some (.inr (a20,a21,a22,a23,a24,a25,a26,a27))=>
 zbm t n a20 a21 a22 a23 a24 a25 a26 a27
 | none=>none)
def zde (t:Tab) (n:Nat) (a1:Int) (a2:List zh) (a3:List GPred) (a4:Int):Option Bool:=
 (match t.zM a3 a4 with
 | some a5=>
 if a5=true then
 some false
 else
 (match t.zS a2 with
 | some a6=>
 some (!a6)
 | none=>none)
 | none=>none)
def zbY (t:Tab) (n:Nat):GPred→Int→Option Bool
 | ⟨a1,a2,a3⟩,a4=>
 (match t.zbZ a1 with
 | some (a5,a6,a7,a8)=>
 if (decide (a4 > 12))=true then
 some false
 else
 if (decide ((a2.length:Int) < a5))=true then
 some false
 else
 if (decide ((a2.length:Int) > a6))=true then
 some false
 else
 if (decide ((a3.length:Int) < a7))=true then
 some false
 else
 if (decide ((a3.length:Int) > a8))=true then
 some false
 else
 zde t n a1 a2 a3 a4
 | none=>none)
def slices_Contains_string (t:Tab) (n:Nat):(List ByteArray)→ByteArray→Option Bool
 | a1,a2=>
 (match t.slices_Index_string a1 a2 with
 | some a3=>
 some (decide (a3≥0))
 | none=>none)
def zH (t:Tab) (n:Nat):(List Int)→Option Bool
 | a1=>
 (match t.zW a1 with
 | some a2=>
 some (decide (a2≥0))
 | none=>none)
def zbH (t:Tab) (n:Nat):Nat→ByteArray→Int→Int→Option (Bool⊕(ByteArray × Int × Int × Bool))
 | 0,_,_,_=>none
 | k+1,a1,a2,a3=>
 if (decide (a3 < a2))=true then
 (match strAt a1 a3 with
 | some a4=>
 (match t.zcz a4 (a3==0)with
 | some a5=>
 if a5=true then
 zbH t n k a1 a2 (IntKind.wrap .i64 (a3+1))
 else
 some (.inl false)
 | none=>none)
 | none=>none)
 else
 some (.inr (a1,a2,a3,(decide (a3 < a2))))
def zdr (t:Tab) (n:Nat) (a1:ByteArray):Option Bool:=
 if (a1.toList==(ByteArray.mk #[]).toList)=true then
 some false
 else
 some (decide ((a1.size:Int)≤40))
def zcq (t:Tab) (n:Nat):ByteArray→Option Bool
 | a1=>
 (match zbH t n n a1 (a1.size:Int) 0 with
 | some (.inl a2)=>
 some a2
 | some (.inr (a3,a4,a5,a6))=>
 zdr t n a3
 | none=>none)
def cmp_Compare_int (t:Tab) (n:Nat):Int→Int→Option Int
 | a1,a2=>
 (match t.cmp_isNaN_int a1 with
 | some a3=>
 (match t.cmp_isNaN_int a2 with
 | some a4=>
 if a3=true then
 if a4=true then
 some 0
 else
 some (-1)
 else
 if a4=true then
 some 1
 else
 if (decide (a1 < a2))=true then
 some (-1)
 else
 if (decide (a1 > a2))=true then
 some 1
 else
 some 0
 | none=>none)
 | none=>none)
def strings_Compare (t:Tab) (n:Nat):ByteArray→ByteArray→Option Int
 | a1,a2=>
 t.bytealg_CompareString a1 a2
def zbI (t:Tab) (n:Nat):Nat→Int→(List Int)→Int→Int→Option (Int⊕(Int × (List Int) × Int × Int × Bool))
 | 0,_,_,_,_=>none
 | k+1,a1,a2,a3,a4=>
 if (decide (a4 < a3))=true then
 if (decide (0≤(a4:Int)))=true then
 (match a2[(a4:Int).toNat]? with
 | some a5=>
 if (a5 !=a1)=true then
 some (.inl a5)
 else
 zbI t n k a1 a2 a3 (IntKind.wrap .i64 (a4+1))
 | none=>none)
 else none
 else
 some (.inr (a1,a2,a3,a4,(decide (a4 < a3))))
def zc0 (t:Tab) (n:Nat):(List Int)→Option Int
 | a1=>
 (match zbI t n n 0 a1 (a1.length:Int) 0 with
 | some (.inl a2)=>
 some a2
 | some (.inr (a3,a4,a5,a6,a7))=>
 some a3
 | none=>none)
def zD (t:Tab) (n:Nat):Nat→(List zh)→(List zh)→Int→(List zh)→Int→Int→Option (Int⊕((List zh) × (List zh) × Int × (List zh) × Int × Int × Bool))
 | 0,_,_,_,_,_,_=>none
 | k+1,a1,a2,a3,a4,a5,a6=>
 if (decide (a6 < a5))=true then
 if (decide (0≤(a6:Int)))=true then
 (match a4[(a6:Int).toNat]? with
 | some ⟨a7,a8,a9,a10,a11⟩=>
 if (decide (a6≥(a2.length:Int)))=true then
 some (.inl 1)
 else
 (match a2[(a6:Int).toNat]? with
 | some ⟨a12,a13,a14,a15,a16⟩=>
 (match t.zaS (zh.mk a7 a8 a9 a10 a11) (zh.mk a12 a13 a14 a15 a16) a3 with
 | some a17=>
 if (a17 !=0)=true then
 some (.inl a17)
 else
 zD t n k a1 a2 a3 a4 a5 (IntKind.wrap .i64 (a6+1))
 | none=>none)
 | none=>none)
 | none=>none)
 else none
 else
 some (.inr (a1,a2,a3,a4,a5,a6,(decide (a6 < a5))))
def zau (t:Tab) (n:Nat) (a1 a2:List zh):Option Int:=
 if (decide ((a1.length:Int) < (a2.length:Int)))=true then
 some (-1)
 else
 some 0
def zI (t:Tab) (n:Nat):(List zh)→(List zh)→Int→Option Int
 | a1,a2,a3=>
 (match zD t n n a1 a2 a3 a1 (a1.length:Int) 0 with
 | some (.inl a4)=>
 some a4
 | some (.inr (a5,a6,a7,a8,a9,a10,a11))=>
 zau t n a5 a6
 | none=>none)
def zcl (t:Tab) (n:Nat):ByteArray→Option Bool
 | a1=>
 (match t.zcq a1 with
 | some a2=>
 some (!a2)
 | none=>none)
def zaP (t:Tab) (n:Nat):Nat→(List (List zh))→Int→(List (List zh))→Int→Int→Option ((List (List zh)) × Int × (List (List zh)) × Int × Int × Bool)
 | 0,_,_,_,_,_=>none
 | k+1,a1,a2,a3,a4,a5=>
 if (decide (a5 < a4))=true then
 if (decide (0≤(a5:Int)))=true then
 (match a3[(a5:Int).toNat]? with
 | some a6=>
 if (decide ((IntKind.wrap .i64 (a2+(a6.length:Int))) < 0))=true then
 none
 else
 zaP t n k a1 (IntKind.wrap .i64 (a2+(a6.length:Int))) a3 a4 (IntKind.wrap .i64 (a5+1))
 | none=>none)
 else none
 else
 some (a1,a2,a3,a4,a5,(decide (a5 < a4)))
def zaQ (t:Tab) (n:Nat):Nat→(List zh)→(List (List zh))→Int→Int→Option ((List zh) × (List (List zh)) × Int × Int × Bool)
 | 0,_,_,_,_=>none
 | k+1,a1,a2,a3,a4=>
 if (decide (a4 < a3))=true then
 if (decide (0≤(a4:Int)))=true then
 (match a2[(a4:Int).toNat]? with
 | some a5=>
 if (a1.length+a5.length) * 80≤140737488355328 then
 zaQ t n k (a1++a5) a2 a3 (IntKind.wrap .i64 (a4+1))
 else none
 | none=>none)
 else none
 else
 some (a1,a2,a3,a4,(decide (a4 < a3)))
def zbC (t:Tab) (n:Nat) (a1:List (List zh)) (a2:Int):Option (List zh):=
 (match t.zdF ([]:List zh) a2 with
 | some a3=>
 (match zaQ t n n a3 a1 (a1.length:Int) 0 with
 | some (a4,a5,a6,a7,a8)=>
 some a4
 | none=>none)
 | none=>none)
def zaz (t:Tab) (n:Nat):(List (List zh))→Option (List zh)
 | a1=>
 (match zaP t n n a1 0 a1 (a1.length:Int) 0 with
 | some (a2,a3,a4,a5,a6,a7)=>
 zbC t n a2 a3
 | none=>none)
def zb3 (t:Tab) (n:Nat) (a1:Int) (a2:Bool):Option ((Int × Int × Int × Int)⊕Unit):=
 if a2=true then
 some (.inl (0,1000,0,0))
 else
 if (a1==12)=true then
 some (.inl (0,0,1,1))
 else
 if (a1==13)=true then
 some (.inl (0,0,2,1000))
 else
 if (a1==14)=true then
 some (.inl (0,0,2,1000))
 else
 some (.inr ())
def zb4 (t:Tab) (n:Nat) (a1:Int) (a2:Bool):Option ((Int × Int × Int × Int)⊕Unit):=
 if a2=true then
 some (.inl (2,2,0,0))
 else
 if (a1==10)=true then
 zb3 t n a1 true
 else
 zb3 t n a1 (a1==11)
def zbd (t:Tab) (n:Nat) (a1:Int) (a2:Bool):Option ((Int × Int × Int × Int)⊕Unit):=
 if a2=true then
 some (.inl (1,1,0,0))
 else
 if (decide (a1≥7))=true then
 zb4 t n a1 (decide (a1≤9))
 else
 zb4 t n a1 false
def zbZ (t:Tab) (n:Nat):Int→Option (Int × Int × Int × Int)
 | a1=>
 if (decide (a1≥1))=true then
 (match zbd t n a1 (decide (a1≤6))with
 | some (.inl (a2,a3,a4,a5))=>
 some (a2,a3,a4,a5)
 | some (.inr ())=>
 some (1,0,1,0)
 | none=>none)
 else
 (match zbd t n a1 false with
 | some (.inl (a6,a7,a8,a9))=>
 some (a6,a7,a8,a9)
 | some (.inr ())=>
 some (1,0,1,0)
 | none=>none)
def zM (t:Tab) (n:Nat):(List GPred)→Int→Option Bool
 | a1,a2=>
 (match t.zab a1 a2 with
 | some a3=>
 some (decide (a3≥0))
 | none=>none)
def zS (t:Tab) (n:Nat):(List zh)→Option Bool
 | a1=>
 (match t.zac a1 with
 | some a2=>
 some (decide (a2≥0))
 | none=>none)
def zas (t:Tab) (n:Nat):Nat→(List ByteArray)→ByteArray→Int→Int→Option (Int⊕((List ByteArray) × ByteArray × Int × Int × Bool))
 | 0,_,_,_,_=>none
 | k+1,a1,a2,a3,a4=>
 if (decide (a4 < a3))=true then
 if (decide (0≤(a4:Int)))=true then
 (match a1[(a4:Int).toNat]? with
 | some a5=>
 if (a2.toList==a5.toList)=true then
 some (.inl a4)
 else
 zas t n k a1 a2 a3 (IntKind.wrap .i64 (a4+1))
 | none=>none)
 else none
 else
 some (.inr (a1,a2,a3,a4,(decide (a4 < a3))))
def slices_Index_string (t:Tab) (n:Nat):(List ByteArray)→ByteArray→Option Int
 | a1,a2=>
 (match zas t n n a1 a2 (a1.length:Int) 0 with
 | some (.inl a3)=>
 some a3
 | some (.inr (a4,a5,a6,a7,a8))=>
 some (-1)
 | none=>none)
def zJ (t:Tab) (n:Nat):Nat→(List Int)→Int→Int→Option (Int⊕((List Int) × Int × Int × Bool))
 | 0,_,_,_=>none
 | k+1,a1,a2,a3=>
 if (decide (a3 < a2))=true then
 if (decide (0≤(a3:Int)))=true then
 (match a1[(a3:Int).toNat]? with
 | some a4=>
 (match t.zba a4 with
 | some a5=>
 if a5=true then
 some (.inl a3)
 else
 zJ t n k a1 a2 (IntKind.wrap .i64 (a3+1))
 | none=>none)
 | none=>none)
 else none
 else
 some (.inr (a1,a2,a3,(decide (a3 < a2))))
def zW (t:Tab) (n:Nat):(List Int)→Option Int
 | a1=>
 (match zJ t n n a1 (a1.length:Int) 0 with
 | some (.inl a2)=>
 some a2
 | some (.inr (a3,a4,a5,a6))=>
 some (-1)
 | none=>none)
def zaJ (t:Tab) (n:Nat) (a1:Int) (a2 a3:Bool):Option (Int × Bool × Bool):=
 if a3=true then
 some (a1,a2,a3)
 else
 if (decide (a1≥65))=true then
 if (decide (a1≤90))=true then
 some (a1,a2,(decide (a1≤90)))
 else
 some (a1,a2,(a1==95))
 else
 some (a1,a2,(a1==95))
def zaK (t:Tab) (n:Nat) (a1:Int) (a2 a3:Bool):Option (Bool⊕Unit):=
 if a3=true then
 some (.inl true)
 else
 if (decide (a1≥48))=true then
 if (decide (a1≤57))=true then
 some (.inl (!a2))
 else
 some (.inr ())
 else
 some (.inr ())
def zcz (t:Tab) (n:Nat):Int→Bool→Option Bool
 | a1,a2=>
 if (decide (a1≥97))=true then
 (match zaJ t n a1 a2 (decide (a1≤122))with
 | some (a3,a4,a5)=>
 (match zaK t n a3 a4 a5 with
 | some (.inl a6)=>
 some a6
 | some (.inr ())=>
 some false
 | none=>none)
 | none=>none)
 else
 (match zaJ t n a1 a2 false with
 | some (a7,a8,a9)=>
 (match zaK t n a7 a8 a9 with
 | some (.inl a10)=>
 some a10
 | some (.inr ())=>
 some false
 | none=>none)
 | none=>none)
def cmp_isNaN_int (t:Tab) (n:Nat):Int→Option Bool
 | a1=>
 some (a1 !=a1)
def zaS (t:Tab) (n:Nat):zh→zh→Int→Option Int
 | ⟨a1,a2,a3,a4,a5⟩,⟨a6,a7,a8,a9,a10⟩,a11=>
 t.zbb (zh.mk a1 a2 a3 a4 a5) (zh.mk a6 a7 a8 a9 a10) (IntKind.wrap .i64 (a11+1))
def zN (t:Tab) (n:Nat):Nat→(List GPred)→Int→Int→Int→Option (Int⊕((List GPred) × Int × Int × Int × Bool))
 | 0,_,_,_,_=>none
 | k+1,a1,a2,a3,a4=>
 if (decide (a4 < a3))=true then
 if (decide (0≤(a4:Int)))=true then
 (match a1[(a4:Int).toNat]? with
 | some ⟨a5,a6,a7⟩=>
 (match t.zbP (GPred.mk a5 a6 a7) a2 with
 | some a8=>
 if a8=true then
 some (.inl a4)
 else
 zN t n k a1 a2 a3 (IntKind.wrap .i64 (a4+1))
 | none=>none)
 | none=>none)
 else none
 else
 some (.inr (a1,a2,a3,a4,(decide (a4 < a3))))
def zab (t:Tab) (n:Nat):(List GPred)→Int→Option Int
 | a1,a2=>
 (match zN t n n a1 a2 (a1.length:Int) 0 with
 | some (.inl a3)=>
 some a3
 | some (.inr (a4,a5,a6,a7,a8))=>
 some (-1)
 | none=>none)
def zO (t:Tab) (n:Nat):Nat→(List zh)→Int→Int→Option (Int⊕((List zh) × Int × Int × Bool))
 | 0,_,_,_=>none
 | k+1,a1,a2,a3=>
 if (decide (a3 < a2))=true then
 if (decide (0≤(a3:Int)))=true then
 (match a1[(a3:Int).toNat]? with
 | some ⟨a4,a5,a6,a7,a8⟩=>
 (match t.zbQ (zh.mk a4 a5 a6 a7 a8)with
 | some a9=>
 if a9=true then
 some (.inl a3)
 else
 zO t n k a1 a2 (IntKind.wrap .i64 (a3+1))
 | none=>none)
 | none=>none)
 else none
 else
 some (.inr (a1,a2,a3,(decide (a3 < a2))))
def zac (t:Tab) (n:Nat):(List zh)→Option Int
 | a1=>
 (match zO t n n a1 (a1.length:Int) 0 with
 | some (.inl a2)=>
 some a2
 | some (.inr (a3,a4,a5,a6))=>
 some (-1)
 | none=>none)
def zba (t:Tab) (n:Nat):Int→Option Bool
 | a1=>
 some (decide (a1 < 0))
def zbP (t:Tab) (n:Nat):GPred→Int→Option Bool
 | ⟨a1,a2,a3⟩,a4=>
 (match t.zbY (GPred.mk a1 a2 a3) (IntKind.wrap .i64 (a4+1))with
 | some a5=>
 some (!a5)
 | none=>none)
def zbQ (t:Tab) (n:Nat):zh→Option Bool
 | ⟨a1,a2,a3,a4,a5⟩=>
 (match t.zbA (zh.mk a1 a2 a3 a4 a5)with
 | some a6=>
 some (a6 !=0)
 | none=>none)
def tab:Nat→Tab
 | 0=>⟨fun _ _ _=>none,
 fun _=>none,
 none,
 fun _=>none,
 fun _=>none,
 fun _=>none,
 fun _ _ _=>none,
 fun _ _=>none,
 fun _ _=>none,
 fun _=>none,
 fun _=>none,
 fun _ _=>none,
 fun _ _=>none,
 fun _ _=>none,
 fun _ _=>none,
 fun _=>none,
 fun _ _=>none,
 fun _ _=>none,
 fun _ _=>none,
 fun _ _=>none,
 fun _ _=>none,
 fun _=>none,
 fun _ _=>none,
 fun _ _=>none,
 fun _ _=>none,
 fun _ _ _=>none,
 fun _ _=>none,
 fun _ _=>none,
 fun _ _ _=>none,
 fun _ _=>none,
 fun _=>none,
 fun _=>none,
 fun _=>none,
 fun _=>none,
 fun _ _=>none,
 fun _ _=>none,
 fun _ _=>none,
 fun _ _ _=>none,
 fun _ _=>none,
 fun _=>none,
 fun _ _=>none,
 fun _ _=>none,
 fun _ _=>none,
 fun _ _=>none,
 fun _=>none,
 fun _ _=>none,
 fun _ _=>none,
 fun _ _=>none,
 fun _ _=>none,
 fun _ _=>none,
 fun _ _=>none,
 fun _ _=>none,
 fun _ _=>none,
 fun _ _=>none,
 fun _ _=>none,
 fun _ _=>none,
 fun _=>none,
 none,
 fun _ _=>none,
 fun _=>none,
 fun _=>none,
 fun _=>none,
 fun _=>none,
 fun _=>none,
 fun _=>none,
 fun _ _ _=>none,
 fun _ _ _=>none,
 fun _=>none,
 fun _ _=>none,
 fun _ _=>none,
 fun _ _=>none,
 fun _=>none,
 fun _=>none,
 fun _ _=>none,
 fun _ _=>none,
 fun _=>none,
 fun _ _ _=>none,
 fun _=>none,
 fun _=>none,
 fun _=>none,
 fun _ _=>none,
 fun _=>none,
 fun _ _=>none,
 fun _=>none,
 fun _ _=>none,
 fun _=>none,
 fun _ _=>none,
 fun _ _ _=>none,
 fun _ _=>none,
 fun _ _=>none,
 fun _=>none,
 fun _=>none,
 fun _ _=>none,
 fun _=>none⟩
 | n+1=>⟨zbe (tab n) n,
 zcI (tab n) n,
 zbJ (tab n) n,
 zbK (tab n) n,
 za6 (tab n) n,
 zbt (tab n) n,
 zbp (tab n) n,
 zcJ (tab n) n,
 zdH (tab n) n,
 zcm (tab n) n,
 zdb (tab n) n,
 zaL (tab n) n,
 zaf (tab n) n,
 zbo (tab n) n,
 zck (tab n) n,
 zcN (tab n) n,
 zbR (tab n) n,
 zb1 (tab n) n,
 zdl (tab n) n,
 zdm (tab n) n,
 zay (tab n) n,
 zcK (tab n) n,
 zaY (tab n) n,
 zaW (tab n) n,
 zc5 (tab n) n,
 zcg (tab n) n,
 zcU (tab n) n,
 zc6 (tab n) n,
 zbV (tab n) n,
 zK (tab n) n,
 fun a=>if decide (a.length * 16≤140737488355328)=true then some a else none,
 fun a=>if decide (a.length * 8≤140737488355328)=true then some a else none,
 zcn (tab n) n,
 zdj (tab n) n,
 zcY (tab n) n,
 zca (tab n) n,
 zdq (tab n) n,
 zdn (tab n) n,
 zaD (tab n) n,
 zcZ (tab n) n,
 zaa (tab n) n,
 zco (tab n) n,
 zcH (tab n) n,
 zdx (tab n) n,
 fun a=>if decide (a.length * 24≤140737488355328)=true then some a else none,
 zby (tab n) n,
 zbL (tab n) n,
 slices_Equal_string (tab n) n,
 slices_Equal_int (tab n) n,
 zcj (tab n) n,
 zbk (tab n) n,
 zbW (tab n) n,
 zdk (tab n) n,
 zdc (tab n) n,
 zax (tab n) n,
 zat (tab n) n,
 zc1 (tab n) n,
 zb5 (tab n) n,
 zc9 (tab n) n,
 zz (tab n) n,
 zbA (tab n) n,
 zcp (tab n) n,
 zbX (tab n) n,
 zcd (tab n) n,
 zbn (tab n) n,
 zdo (tab n) n,
 zbb (tab n) n,
 zah (tab n) n,
 zbc (tab n) n,
 zbY (tab n) n,
 slices_Contains_string (tab n) n,
 zH (tab n) n,
 zcq (tab n) n,
 cmp_Compare_int (tab n) n,
 strings_Compare (tab n) n,
 zc0 (tab n) n,
 zI (tab n) n,
 zcl (tab n) n,
 zaz (tab n) n,
 zbZ (tab n) n,
 zM (tab n) n,
 zS (tab n) n,
 slices_Index_string (tab n) n,
 zW (tab n) n,
 zcz (tab n) n,
 cmp_isNaN_int (tab n) n,
 fun a b=>some (Lib.compareBytes a.data.toList b.data.toList),
 zaS (tab n) n,
 fun a n=>if a.isEmpty=true then if decide (0≤n∧n * 80≤140737488355328)=true then some ([]:List zh)else none else none,
 zab (tab n) n,
 zac (tab n) n,
 zba (tab n) n,
 zbP (tab n) n,
 zbQ (tab n) n⟩
end Go.Proofs.YtgmidllbkjdnnaaDoor.W
