/- What an operation asks for, as the reference says it. -/
import Derived.Test.YtgmidllbkjdnnaaGreatDoorPlV
namespace Go.Proofs.YtgmidllbkjdnnaaGreatDoor.W
open Go.Proofs.YtgmidllbkjdnnaaGreatDoor.Flat
set_option linter.unusedVariables false
set_option linter.unusedSimpArgs false
set_option linter.unusedSectionVars false
theorem z2 {a b:Nat} (ha:a≤2097152) (hb:b≤2097152):(IntKind.wrap .i64 ((a:Int)+(b:Int))==0)=(a==0&&b==0):=by
 rw[wr (by omega) (by omega),Bool.eq_iff_iff];simp;omega
theorem z3 {a b c:Nat} (ha:a≤2097152) (hb:b≤2097152) (hc:c≤2097152):(IntKind.wrap .i64 (IntKind.wrap .i64 ((a:Int)+(b:Int))+(c:Int))==0)=(a==0&&b==0&&c==0):=by
 rw[wr (x:=(a:Int)+b) (by omega) (by omega),wr (by omega) (by omega),Bool.eq_iff_iff];simp;omega
theorem z4 {a b c d:Nat} (ha:a≤2097152) (hb:b≤2097152) (hc:c≤2097152) (hd:d≤2097152):(IntKind.wrap .i64 (IntKind.wrap .i64 (IntKind.wrap .i64 ((a:Int)+(b:Int))+(c:Int))+(d:Int))==0)=(a==0&&b==0&&c==0&&d==0):=by
 rw[wr (x:=(a:Int)+b) (by omega) (by omega),wr (x:=(a:Int)+b+c) (by omega) (by omega),wr (by omega) (by omega),Bool.eq_iff_iff];simp;omega
def lowF (N:List Int):Bool:= !(N.any fun y=>decide (y < 0))
def lw (o:Option Bool):Option (Bool⊕Bool):=match o with
 | some a=>some (.inl a)
 | none=>none
def un (o:Option (Bool⊕Bool)):Option Bool:=match o with
 | some (.inl a)=>some a
 | some (.inr a)=>some a
 | none=>none
theorem gt0 (a:Nat):(decide ((a:Int) > 0))=decide (0 < a):=by rw[Bool.eq_iff_iff,decide_eq_true_eq,decide_eq_true_eq];omega
theorem zh7 (a b:Nat):(decide ((a:Int)≤(b:Int)))=decide (a≤b):=by rw[Bool.eq_iff_iff,decide_eq_true_eq,decide_eq_true_eq];omega
theorem anyn (l:List ByteArray):(!(l.any fun s=> !nameF s))=l.all nameF:=by rw[List.any_eq_not_all_not];simp
theorem zfS (c:Bool) (a:Option (Bool⊕Bool)):un (if c=true then a else some (.inl false))=if c=true then un a else some false:=by cases c<;>rfl
theorem zhh (a:Bool):un (some (.inl a))=some a:=rfl
theorem zhi (a:Bool):un (some (.inr a))=some a:=rfl
theorem zh8 (a:Bool):lw (some a)=some (.inl a):=rfl
theorem zp8 (c:Bool) (a b:Option (Bool⊕Bool)):un (if c=true then a else b)=if c=true then un a else un b:=by cases c<;>rfl
theorem zqO (c d e:Bool):(if c=true then some d else some e)=some ((c&&d)||(!c&&e)):=by cases c<;>cases d<;>cases e<;>rfl
theorem zfT (c d:Bool):(if c=true then some d else some false)=some (c&&d):=by cases c<;>rfl
section
variable {t:Tab} {n:Nat} {op:Int} {S As:List ByteArray} {N:List Int} {v1 v2:Int} {v3:ByteArray} {v4 v5:List zh} {p1:Int} {p2:List zh} {p3:List GPred} {Ts:List (List GStep)} {By:List GBy}
def OwnEq (op:Int) (t:Tab) (n:Nat) (x:GStep):Prop:=∃q,zai t n x=some q∧(q&&zdu (sOf x)&&zdu (asOf x))=(zdy x (shF op)&& !((sOf x).any fun s=> !nameF s)&& !((asOf x).any fun s=> !nameF s)&&numF x&& !(op==43&&(zbg (sOf x)||decide ((byOf x).length > (sOf x).length))))
variable (hN:t.zaU op=some (nmF op)) (hlow:t.zdc N=some (lowF N)) (honce:t.zdp S=some (!zbg S)) (hs:S.length≤2097152) (hn:N.length≤2097152) (ht:Ts.length≤2097152) (hb:By.length≤2097152)
include hN hlow honce hs hn ht hb
theorem og0 (h:op=1∨op=2):OwnEq op t n (.mk op S N (.mk v1 v2 v3 v4 v5) (.mk p1 p2 p3) Ts By As):=by
 have e1:zdy (.mk op S N (.mk v1 v2 v3 v4 v5) (.mk p1 p2 p3) Ts By As) (shF op)=(decide ((0:Int)≤S.length)&&decide ((S.length:Int)≤0)&&(decide ((0:Int)≤N.length)&&decide ((N.length:Int)≤50))&&(decide ((0:Int)≤Ts.length)&&decide ((Ts.length:Int)≤0))&&(decide ((0:Int)≤By.length)&&decide ((By.length:Int)≤0))&&decide (As.length≤50)):=by rcases h with rfl | rfl<;>kernel_rfl
 have e2:numF (.mk op S N (.mk v1 v2 v3 v4 v5) (.mk p1 p2 p3) Ts By As)=lowF N:=by rcases h with rfl | rfl<;>kernel_rfl
 have e3:(op==43)=false:=by rcases h with rfl | rfl<;>rfl
 refine⟨S.length==0&&Ts.length==0&&By.length==0&&decide (N.length≤50)&&lowF N, ?_, ?_⟩
 ·have k:zai t n (.mk op S N (.mk v1 v2 v3 v4 v5) (.mk p1 p2 p3) Ts By As)=un (if (IntKind.wrap .i64 (IntKind.wrap .i64 ((S.length:Int)+(Ts.length:Int))+(By.length:Int))==0)=true then(if decide ((N.length:Int)≤50)=true then(lw (t.zdc N))else(some (.inl false)))else(some (.inl false))):=by
   rcases h with rfl | rfl<;>(rw[zai,hN];kernel_rfl)
  rw[k]
  simp only[hlow,honce,zfS,zh8,zhh,zhi,zfT,gt0,zh7,z2 hn ht,z3 hn ht hb,z3 hs ht hb,z3 hs hn hb,z3 hs hn ht,z4 hs hn ht hb]
  all_goals clear e1 e2 e3 h hN hlow honce hs hn ht hb
  all_goals generalize lowF N=lo
  all_goals generalize zbg S=tw
  all_goals cases lo<;>cases tw<;>congr 1<;>rw[Bool.eq_iff_iff]<;>simp[-List.length_eq_zero_iff]<;>omega
 ·dsimp only[sOf,asOf,byOf]
  rw[anyn,anyn,e1,e2,e3]
  unfold zdu
  generalize lowF N=lo;generalize zbg S=tw;generalize S.all nameF=A;generalize As.all nameF=B
  clear e1 e2 e3 h hN hlow honce hs hn ht hb
  cases A<;>cases B<;>cases lo<;>cases tw<;>rw[Bool.eq_iff_iff]<;>simp[-List.length_eq_zero_iff]<;>omega
theorem og1 (h:op=3∨op=4∨op=5∨op=6∨op=7∨op=8∨op=14):OwnEq op t n (.mk op S N (.mk v1 v2 v3 v4 v5) (.mk p1 p2 p3) Ts By As):=by
 have e1:zdy (.mk op S N (.mk v1 v2 v3 v4 v5) (.mk p1 p2 p3) Ts By As) (shF op)=(decide ((0:Int)≤S.length)&&decide ((S.length:Int)≤50)&&(decide ((0:Int)≤N.length)&&decide ((N.length:Int)≤0))&&(decide ((0:Int)≤Ts.length)&&decide ((Ts.length:Int)≤0))&&(decide ((0:Int)≤By.length)&&decide ((By.length:Int)≤0))&&decide (As.length≤50)):=by rcases h with rfl | rfl | rfl | rfl | rfl | rfl | rfl<;>kernel_rfl
 have e2:numF (.mk op S N (.mk v1 v2 v3 v4 v5) (.mk p1 p2 p3) Ts By As)=true:=by rcases h with rfl | rfl | rfl | rfl | rfl | rfl | rfl<;>kernel_rfl
 have e3:(op==43)=false:=by rcases h with rfl | rfl | rfl | rfl | rfl | rfl | rfl<;>rfl
 refine⟨N.length==0&&Ts.length==0&&By.length==0, ?_, ?_⟩
 ·have k:zai t n (.mk op S N (.mk v1 v2 v3 v4 v5) (.mk p1 p2 p3) Ts By As)=un (some (.inl (IntKind.wrap .i64 (IntKind.wrap .i64 ((N.length:Int)+(Ts.length:Int))+(By.length:Int))==0))):=by
   rcases h with rfl | rfl | rfl | rfl | rfl | rfl | rfl<;>(rw[zai,hN];kernel_rfl)
  rw[k]
  simp only[hlow,honce,zfS,zh8,zhh,zhi,zfT,gt0,zh7,z2 hn ht,z3 hn ht hb,z3 hs ht hb,z3 hs hn hb,z3 hs hn ht,z4 hs hn ht hb]
  all_goals clear e1 e2 e3 h hN hlow honce hs hn ht hb
  all_goals generalize lowF N=lo
  all_goals generalize zbg S=tw
  all_goals cases lo<;>cases tw<;>congr 1<;>rw[Bool.eq_iff_iff]<;>simp[-List.length_eq_zero_iff]<;>omega
 ·dsimp only[sOf,asOf,byOf]
  rw[anyn,anyn,e1,e2,e3]
  unfold zdu
  generalize lowF N=lo;generalize zbg S=tw;generalize S.all nameF=A;generalize As.all nameF=B
  clear e1 e2 e3 h hN hlow honce hs hn ht hb
  cases A<;>cases B<;>cases lo<;>cases tw<;>rw[Bool.eq_iff_iff]<;>simp[-List.length_eq_zero_iff]<;>omega
theorem og2 (h:op=17∨op=39):OwnEq op t n (.mk op S N (.mk v1 v2 v3 v4 v5) (.mk p1 p2 p3) Ts By As):=by
 have e1:zdy (.mk op S N (.mk v1 v2 v3 v4 v5) (.mk p1 p2 p3) Ts By As) (shF op)=(decide ((1:Int)≤S.length)&&decide ((S.length:Int)≤50)&&(decide ((0:Int)≤N.length)&&decide ((N.length:Int)≤0))&&(decide ((0:Int)≤Ts.length)&&decide ((Ts.length:Int)≤0))&&(decide ((0:Int)≤By.length)&&decide ((By.length:Int)≤0))&&decide (As.length≤50)):=by rcases h with rfl | rfl<;>kernel_rfl
 have e2:numF (.mk op S N (.mk v1 v2 v3 v4 v5) (.mk p1 p2 p3) Ts By As)=true:=by rcases h with rfl | rfl<;>kernel_rfl
 have e3:(op==43)=false:=by rcases h with rfl | rfl<;>rfl
 refine⟨decide (0 < S.length)&&(N.length==0&&Ts.length==0&&By.length==0), ?_, ?_⟩
 ·have k:zai t n (.mk op S N (.mk v1 v2 v3 v4 v5) (.mk p1 p2 p3) Ts By As)=un (if decide ((S.length:Int) > 0)=true then(some (.inl (IntKind.wrap .i64 (IntKind.wrap .i64 ((N.length:Int)+(Ts.length:Int))+(By.length:Int))==0)))else(some (.inl false))):=by
   rcases h with rfl | rfl<;>(rw[zai,hN];kernel_rfl)
  rw[k]
  simp only[hlow,honce,zfS,zh8,zhh,zhi,zfT,gt0,zh7,z2 hn ht,z3 hn ht hb,z3 hs ht hb,z3 hs hn hb,z3 hs hn ht,z4 hs hn ht hb]
  all_goals clear e1 e2 e3 h hN hlow honce hs hn ht hb
  all_goals generalize lowF N=lo
  all_goals generalize zbg S=tw
  all_goals cases lo<;>cases tw<;>congr 1<;>rw[Bool.eq_iff_iff]<;>simp[-List.length_eq_zero_iff]<;>omega
 ·dsimp only[sOf,asOf,byOf]
  rw[anyn,anyn,e1,e2,e3]
  unfold zdu
  generalize lowF N=lo;generalize zbg S=tw;generalize S.all nameF=A;generalize As.all nameF=B
  clear e1 e2 e3 h hN hlow honce hs hn ht hb
  cases A<;>cases B<;>cases lo<;>cases tw<;>rw[Bool.eq_iff_iff]<;>simp[-List.length_eq_zero_iff]<;>omega
theorem og3 (h:op=18∨op=19∨op=20∨op=49∨op=50):OwnEq op t n (.mk op S N (.mk v1 v2 v3 v4 v5) (.mk p1 p2 p3) Ts By As):=by
 have e1:zdy (.mk op S N (.mk v1 v2 v3 v4 v5) (.mk p1 p2 p3) Ts By As) (shF op)=(decide ((1:Int)≤S.length)&&decide ((S.length:Int)≤1)&&(decide ((0:Int)≤N.length)&&decide ((N.length:Int)≤0))&&(decide ((0:Int)≤Ts.length)&&decide ((Ts.length:Int)≤0))&&(decide ((0:Int)≤By.length)&&decide ((By.length:Int)≤0))&&decide (As.length≤50)):=by rcases h with rfl | rfl | rfl | rfl | rfl<;>kernel_rfl
 have e2:numF (.mk op S N (.mk v1 v2 v3 v4 v5) (.mk p1 p2 p3) Ts By As)=true:=by rcases h with rfl | rfl | rfl | rfl | rfl<;>kernel_rfl
 have e3:(op==43)=false:=by rcases h with rfl | rfl | rfl | rfl | rfl<;>rfl
 refine⟨S.length==1&&(N.length==0&&Ts.length==0&&By.length==0), ?_, ?_⟩
 ·have k:zai t n (.mk op S N (.mk v1 v2 v3 v4 v5) (.mk p1 p2 p3) Ts By As)=un (if ((S.length:Int)==1)=true then(some (.inl (IntKind.wrap .i64 (IntKind.wrap .i64 ((N.length:Int)+(Ts.length:Int))+(By.length:Int))==0)))else(some (.inl false))):=by
   rcases h with rfl | rfl | rfl | rfl | rfl<;>(rw[zai,hN];kernel_rfl)
  rw[k]
  simp only[hlow,honce,zfS,zh8,zhh,zhi,zfT,gt0,zh7,z2 hn ht,z3 hn ht hb,z3 hs ht hb,z3 hs hn hb,z3 hs hn ht,z4 hs hn ht hb]
  all_goals clear e1 e2 e3 h hN hlow honce hs hn ht hb
  all_goals generalize lowF N=lo
  all_goals generalize zbg S=tw
  all_goals cases lo<;>cases tw<;>congr 1<;>rw[Bool.eq_iff_iff]<;>simp[-List.length_eq_zero_iff]<;>omega
 ·dsimp only[sOf,asOf,byOf]
  rw[anyn,anyn,e1,e2,e3]
  unfold zdu
  generalize lowF N=lo;generalize zbg S=tw;generalize S.all nameF=A;generalize As.all nameF=B
  clear e1 e2 e3 h hN hlow honce hs hn ht hb
  cases A<;>cases B<;>cases lo<;>cases tw<;>rw[Bool.eq_iff_iff]<;>simp[-List.length_eq_zero_iff]<;>omega
theorem og4 (h:op=21):OwnEq op t n (.mk op S N (.mk v1 v2 v3 v4 v5) (.mk p1 p2 p3) Ts By As):=by
 have e1:zdy (.mk op S N (.mk v1 v2 v3 v4 v5) (.mk p1 p2 p3) Ts By As) (shF op)=(decide ((0:Int)≤S.length)&&decide ((S.length:Int)≤0)&&(decide ((1:Int)≤N.length)&&decide ((N.length:Int)≤50))&&(decide ((0:Int)≤Ts.length)&&decide ((Ts.length:Int)≤0))&&(decide ((0:Int)≤By.length)&&decide ((By.length:Int)≤0))&&decide (As.length≤50)):=by
  subst h
  kernel_rfl
 have e2:numF (.mk op S N (.mk v1 v2 v3 v4 v5) (.mk p1 p2 p3) Ts By As)=true:=by
  subst h
  kernel_rfl
 have e3:(op==43)=false:=by
  subst h
  rfl
 refine⟨decide (0 < N.length)&&decide (N.length≤50)&&(S.length==0&&Ts.length==0&&By.length==0), ?_, ?_⟩
 ·have k:zai t n (.mk op S N (.mk v1 v2 v3 v4 v5) (.mk p1 p2 p3) Ts By As)=un (if decide ((N.length:Int) > 0)=true then(if decide ((N.length:Int)≤50)=true then(some (.inl (IntKind.wrap .i64 (IntKind.wrap .i64 ((S.length:Int)+(Ts.length:Int))+(By.length:Int))==0)))else(some (.inl false)))else(some (.inl false))):=by
   subst h
   rw[zai,hN]
   kernel_rfl
  rw[k]
  simp only[hlow,honce,zfS,zh8,zhh,zhi,zfT,gt0,zh7,z2 hn ht,z3 hn ht hb,z3 hs ht hb,z3 hs hn hb,z3 hs hn ht,z4 hs hn ht hb]
  all_goals clear e1 e2 e3 h hN hlow honce hs hn ht hb
  all_goals generalize lowF N=lo
  all_goals generalize zbg S=tw
  all_goals cases lo<;>cases tw<;>congr 1<;>rw[Bool.eq_iff_iff]<;>simp[-List.length_eq_zero_iff]<;>omega
 ·dsimp only[sOf,asOf,byOf]
  rw[anyn,anyn,e1,e2,e3]
  unfold zdu
  generalize lowF N=lo;generalize zbg S=tw;generalize S.all nameF=A;generalize As.all nameF=B
  clear e1 e2 e3 h hN hlow honce hs hn ht hb
  cases A<;>cases B<;>cases lo<;>cases tw<;>rw[Bool.eq_iff_iff]<;>simp[-List.length_eq_zero_iff]<;>omega
theorem og5 (h:op=25):OwnEq op t n (.mk op S N (.mk v1 v2 v3 v4 v5) (.mk p1 p2 p3) Ts By As):=by
 have e1:zdy (.mk op S N (.mk v1 v2 v3 v4 v5) (.mk p1 p2 p3) Ts By As) (shF op)=(decide ((0:Int)≤S.length)&&decide ((S.length:Int)≤0)&&(decide ((1:Int)≤N.length)&&decide ((N.length:Int)≤1))&&(decide ((0:Int)≤Ts.length)&&decide ((Ts.length:Int)≤0))&&(decide ((0:Int)≤By.length)&&decide ((By.length:Int)≤0))&&decide (As.length≤50)):=by
  subst h
  kernel_rfl
 have e2:numF (.mk op S N (.mk v1 v2 v3 v4 v5) (.mk p1 p2 p3) Ts By As)=lowF N:=by
  subst h
  kernel_rfl
 have e3:(op==43)=false:=by
  subst h
  rfl
 refine⟨N.length==1&&(S.length==0&&Ts.length==0&&By.length==0)&&lowF N, ?_, ?_⟩
 ·have k:zai t n (.mk op S N (.mk v1 v2 v3 v4 v5) (.mk p1 p2 p3) Ts By As)=un (if ((N.length:Int)==1)=true then(if (IntKind.wrap .i64 (IntKind.wrap .i64 ((S.length:Int)+(Ts.length:Int))+(By.length:Int))==0)=true then(lw (t.zdc N))else(some (.inl false)))else(some (.inl false))):=by
   subst h
   rw[zai,hN]
   kernel_rfl
  rw[k]
  simp only[hlow,honce,zfS,zh8,zhh,zhi,zfT,gt0,zh7,z2 hn ht,z3 hn ht hb,z3 hs ht hb,z3 hs hn hb,z3 hs hn ht,z4 hs hn ht hb]
  all_goals clear e1 e2 e3 h hN hlow honce hs hn ht hb
  all_goals generalize lowF N=lo
  all_goals generalize zbg S=tw
  all_goals cases lo<;>cases tw<;>congr 1<;>rw[Bool.eq_iff_iff]<;>simp[-List.length_eq_zero_iff]<;>omega
 ·dsimp only[sOf,asOf,byOf]
  rw[anyn,anyn,e1,e2,e3]
  unfold zdu
  generalize lowF N=lo;generalize zbg S=tw;generalize S.all nameF=A;generalize As.all nameF=B
  clear e1 e2 e3 h hN hlow honce hs hn ht hb
  cases A<;>cases B<;>cases lo<;>cases tw<;>rw[Bool.eq_iff_iff]<;>simp[-List.length_eq_zero_iff]<;>omega
theorem og6 (h:op=28∨op=29∨op=47):OwnEq op t n (.mk op S N (.mk v1 v2 v3 v4 v5) (.mk p1 p2 p3) Ts By As):=by
 have e1:zdy (.mk op S N (.mk v1 v2 v3 v4 v5) (.mk p1 p2 p3) Ts By As) (shF op)=(decide ((0:Int)≤S.length)&&decide ((S.length:Int)≤0)&&(decide ((0:Int)≤N.length)&&decide ((N.length:Int)≤0))&&(decide ((1:Int)≤Ts.length)&&decide ((Ts.length:Int)≤1))&&(decide ((0:Int)≤By.length)&&decide ((By.length:Int)≤0))&&decide (As.length≤50)):=by rcases h with rfl | rfl | rfl<;>kernel_rfl
 have e2:numF (.mk op S N (.mk v1 v2 v3 v4 v5) (.mk p1 p2 p3) Ts By As)=true:=by rcases h with rfl | rfl | rfl<;>kernel_rfl
 have e3:(op==43)=false:=by rcases h with rfl | rfl | rfl<;>rfl
 refine⟨Ts.length==1&&(S.length==0&&N.length==0&&By.length==0), ?_, ?_⟩
 ·have k:zai t n (.mk op S N (.mk v1 v2 v3 v4 v5) (.mk p1 p2 p3) Ts By As)=un (if ((Ts.length:Int)==1)=true then(some (.inl (IntKind.wrap .i64 (IntKind.wrap .i64 ((S.length:Int)+(N.length:Int))+(By.length:Int))==0)))else(some (.inl false))):=by
   rcases h with rfl | rfl | rfl<;>(rw[zai,hN];kernel_rfl)
  rw[k]
  simp only[hlow,honce,zfS,zh8,zhh,zhi,zfT,gt0,zh7,z2 hn ht,z3 hn ht hb,z3 hs ht hb,z3 hs hn hb,z3 hs hn ht,z4 hs hn ht hb]
  all_goals clear e1 e2 e3 h hN hlow honce hs hn ht hb
  all_goals generalize lowF N=lo
  all_goals generalize zbg S=tw
  all_goals cases lo<;>cases tw<;>congr 1<;>rw[Bool.eq_iff_iff]<;>simp[-List.length_eq_zero_iff]<;>omega
 ·dsimp only[sOf,asOf,byOf]
  rw[anyn,anyn,e1,e2,e3]
  unfold zdu
  generalize lowF N=lo;generalize zbg S=tw;generalize S.all nameF=A;generalize As.all nameF=B
  clear e1 e2 e3 h hN hlow honce hs hn ht hb
  cases A<;>cases B<;>cases lo<;>cases tw<;>rw[Bool.eq_iff_iff]<;>simp[-List.length_eq_zero_iff]<;>omega
theorem og7 (h:op=30∨op=31∨op=44∨op=45):OwnEq op t n (.mk op S N (.mk v1 v2 v3 v4 v5) (.mk p1 p2 p3) Ts By As):=by
 have e1:zdy (.mk op S N (.mk v1 v2 v3 v4 v5) (.mk p1 p2 p3) Ts By As) (shF op)=(decide ((0:Int)≤S.length)&&decide ((S.length:Int)≤0)&&(decide ((0:Int)≤N.length)&&decide ((N.length:Int)≤0))&&(decide ((1:Int)≤Ts.length)&&decide ((Ts.length:Int)≤50))&&(decide ((0:Int)≤By.length)&&decide ((By.length:Int)≤0))&&decide (As.length≤50)):=by rcases h with rfl | rfl | rfl | rfl<;>kernel_rfl
 have e2:numF (.mk op S N (.mk v1 v2 v3 v4 v5) (.mk p1 p2 p3) Ts By As)=true:=by rcases h with rfl | rfl | rfl | rfl<;>kernel_rfl
 have e3:(op==43)=false:=by rcases h with rfl | rfl | rfl | rfl<;>rfl
 refine⟨decide (0 < Ts.length)&&decide (Ts.length≤50)&&(S.length==0&&N.length==0&&By.length==0), ?_, ?_⟩
 ·have k:zai t n (.mk op S N (.mk v1 v2 v3 v4 v5) (.mk p1 p2 p3) Ts By As)=un (if decide ((Ts.length:Int) > 0)=true then(if decide ((Ts.length:Int)≤50)=true then(some (.inl (IntKind.wrap .i64 (IntKind.wrap .i64 ((S.length:Int)+(N.length:Int))+(By.length:Int))==0)))else(some (.inl false)))else(some (.inl false))):=by
   rcases h with rfl | rfl | rfl | rfl<;>(rw[zai,hN];kernel_rfl)
  rw[k]
  simp only[hlow,honce,zfS,zh8,zhh,zhi,zfT,gt0,zh7,z2 hn ht,z3 hn ht hb,z3 hs ht hb,z3 hs hn hb,z3 hs hn ht,z4 hs hn ht hb]
  all_goals clear e1 e2 e3 h hN hlow honce hs hn ht hb
  all_goals generalize lowF N=lo
  all_goals generalize zbg S=tw
  all_goals cases lo<;>cases tw<;>congr 1<;>rw[Bool.eq_iff_iff]<;>simp[-List.length_eq_zero_iff]<;>omega
 ·dsimp only[sOf,asOf,byOf]
  rw[anyn,anyn,e1,e2,e3]
  unfold zdu
  generalize lowF N=lo;generalize zbg S=tw;generalize S.all nameF=A;generalize As.all nameF=B
  clear e1 e2 e3 h hN hlow honce hs hn ht hb
  cases A<;>cases B<;>cases lo<;>cases tw<;>rw[Bool.eq_iff_iff]<;>simp[-List.length_eq_zero_iff]<;>omega
theorem og8 (h:op=46):OwnEq op t n (.mk op S N (.mk v1 v2 v3 v4 v5) (.mk p1 p2 p3) Ts By As):=by
 have e1:zdy (.mk op S N (.mk v1 v2 v3 v4 v5) (.mk p1 p2 p3) Ts By As) (shF op)=(decide ((0:Int)≤S.length)&&decide ((S.length:Int)≤0)&&(decide ((0:Int)≤N.length)&&decide ((N.length:Int)≤0))&&(decide ((3:Int)≤Ts.length)&&decide ((Ts.length:Int)≤3))&&(decide ((0:Int)≤By.length)&&decide ((By.length:Int)≤0))&&decide (As.length≤50)):=by
  subst h
  kernel_rfl
 have e2:numF (.mk op S N (.mk v1 v2 v3 v4 v5) (.mk p1 p2 p3) Ts By As)=true:=by
  subst h
  kernel_rfl
 have e3:(op==43)=false:=by
  subst h
  rfl
 refine⟨Ts.length==3&&(S.length==0&&N.length==0&&By.length==0), ?_, ?_⟩
 ·have k:zai t n (.mk op S N (.mk v1 v2 v3 v4 v5) (.mk p1 p2 p3) Ts By As)=un (if ((Ts.length:Int)==3)=true then(some (.inl (IntKind.wrap .i64 (IntKind.wrap .i64 ((S.length:Int)+(N.length:Int))+(By.length:Int))==0)))else(some (.inl false))):=by
   subst h
   rw[zai,hN]
   kernel_rfl
  rw[k]
  simp only[hlow,honce,zfS,zh8,zhh,zhi,zfT,gt0,zh7,z2 hn ht,z3 hn ht hb,z3 hs ht hb,z3 hs hn hb,z3 hs hn ht,z4 hs hn ht hb]
  all_goals clear e1 e2 e3 h hN hlow honce hs hn ht hb
  all_goals generalize lowF N=lo
  all_goals generalize zbg S=tw
  all_goals cases lo<;>cases tw<;>congr 1<;>rw[Bool.eq_iff_iff]<;>simp[-List.length_eq_zero_iff]<;>omega
 ·dsimp only[sOf,asOf,byOf]
  rw[anyn,anyn,e1,e2,e3]
  unfold zdu
  generalize lowF N=lo;generalize zbg S=tw;generalize S.all nameF=A;generalize As.all nameF=B
  clear e1 e2 e3 h hN hlow honce hs hn ht hb
  cases A<;>cases B<;>cases lo<;>cases tw<;>rw[Bool.eq_iff_iff]<;>simp[-List.length_eq_zero_iff]<;>omega
theorem og9 (h:op=40):OwnEq op t n (.mk op S N (.mk v1 v2 v3 v4 v5) (.mk p1 p2 p3) Ts By As):=by
 have e1:zdy (.mk op S N (.mk v1 v2 v3 v4 v5) (.mk p1 p2 p3) Ts By As) (shF op)=(decide ((0:Int)≤S.length)&&decide ((S.length:Int)≤0)&&(decide ((0:Int)≤N.length)&&decide ((N.length:Int)≤0))&&(decide ((0:Int)≤Ts.length)&&decide ((Ts.length:Int)≤0))&&(decide ((0:Int)≤By.length)&&decide ((By.length:Int)≤50))&&decide (As.length≤50)):=by
  subst h
  kernel_rfl
 have e2:numF (.mk op S N (.mk v1 v2 v3 v4 v5) (.mk p1 p2 p3) Ts By As)=true:=by
  subst h
  kernel_rfl
 have e3:(op==43)=false:=by
  subst h
  rfl
 refine⟨(S.length==0&&N.length==0&&Ts.length==0)&&decide (By.length≤50), ?_, ?_⟩
 ·have k:zai t n (.mk op S N (.mk v1 v2 v3 v4 v5) (.mk p1 p2 p3) Ts By As)=un (if (IntKind.wrap .i64 (IntKind.wrap .i64 ((S.length:Int)+(N.length:Int))+(Ts.length:Int))==0)=true then(some (.inl (decide ((By.length:Int)≤50))))else(some (.inl false))):=by
   subst h
   rw[zai,hN]
   kernel_rfl
  rw[k]
  simp only[hlow,honce,zfS,zh8,zhh,zhi,zfT,gt0,zh7,z2 hn ht,z3 hn ht hb,z3 hs ht hb,z3 hs hn hb,z3 hs hn ht,z4 hs hn ht hb]
  all_goals clear e1 e2 e3 h hN hlow honce hs hn ht hb
  all_goals generalize lowF N=lo
  all_goals generalize zbg S=tw
  all_goals cases lo<;>cases tw<;>congr 1<;>rw[Bool.eq_iff_iff]<;>simp[-List.length_eq_zero_iff]<;>omega
 ·dsimp only[sOf,asOf,byOf]
  rw[anyn,anyn,e1,e2,e3]
  unfold zdu
  generalize lowF N=lo;generalize zbg S=tw;generalize S.all nameF=A;generalize As.all nameF=B
  clear e1 e2 e3 h hN hlow honce hs hn ht hb
  cases A<;>cases B<;>cases lo<;>cases tw<;>rw[Bool.eq_iff_iff]<;>simp[-List.length_eq_zero_iff]<;>omega
theorem og10 (h:op=41):OwnEq op t n (.mk op S N (.mk v1 v2 v3 v4 v5) (.mk p1 p2 p3) Ts By As):=by
 have e1:zdy (.mk op S N (.mk v1 v2 v3 v4 v5) (.mk p1 p2 p3) Ts By As) (shF op)=(decide ((0:Int)≤S.length)&&decide ((S.length:Int)≤0)&&(decide ((0:Int)≤N.length)&&decide ((N.length:Int)≤0))&&(decide ((0:Int)≤Ts.length)&&decide ((Ts.length:Int)≤0))&&(decide ((0:Int)≤By.length)&&decide ((By.length:Int)≤2))&&decide (As.length≤50)):=by
  subst h
  kernel_rfl
 have e2:numF (.mk op S N (.mk v1 v2 v3 v4 v5) (.mk p1 p2 p3) Ts By As)=true:=by
  subst h
  kernel_rfl
 have e3:(op==43)=false:=by
  subst h
  rfl
 refine⟨(S.length==0&&N.length==0&&Ts.length==0)&&decide (By.length≤2), ?_, ?_⟩
 ·have k:zai t n (.mk op S N (.mk v1 v2 v3 v4 v5) (.mk p1 p2 p3) Ts By As)=un (if (IntKind.wrap .i64 (IntKind.wrap .i64 ((S.length:Int)+(N.length:Int))+(Ts.length:Int))==0)=true then(some (.inl (decide ((By.length:Int)≤2))))else(some (.inl false))):=by
   subst h
   rw[zai,hN]
   kernel_rfl
  rw[k]
  simp only[hlow,honce,zfS,zh8,zhh,zhi,zfT,gt0,zh7,z2 hn ht,z3 hn ht hb,z3 hs ht hb,z3 hs hn hb,z3 hs hn ht,z4 hs hn ht hb]
  all_goals clear e1 e2 e3 h hN hlow honce hs hn ht hb
  all_goals generalize lowF N=lo
  all_goals generalize zbg S=tw
  all_goals cases lo<;>cases tw<;>congr 1<;>rw[Bool.eq_iff_iff]<;>simp[-List.length_eq_zero_iff]<;>omega
 ·dsimp only[sOf,asOf,byOf]
  rw[anyn,anyn,e1,e2,e3]
  unfold zdu
  generalize lowF N=lo;generalize zbg S=tw;generalize S.all nameF=A;generalize As.all nameF=B
  clear e1 e2 e3 h hN hlow honce hs hn ht hb
  cases A<;>cases B<;>cases lo<;>cases tw<;>rw[Bool.eq_iff_iff]<;>simp[-List.length_eq_zero_iff]<;>omega
theorem og11 (h:op=42):OwnEq op t n (.mk op S N (.mk v1 v2 v3 v4 v5) (.mk p1 p2 p3) Ts By As):=by
 have e1:zdy (.mk op S N (.mk v1 v2 v3 v4 v5) (.mk p1 p2 p3) Ts By As) (shF op)=(decide ((0:Int)≤S.length)&&decide ((S.length:Int)≤0)&&(decide ((0:Int)≤N.length)&&decide ((N.length:Int)≤0))&&(decide ((0:Int)≤Ts.length)&&decide ((Ts.length:Int)≤0))&&(decide ((0:Int)≤By.length)&&decide ((By.length:Int)≤1))&&decide (As.length≤50)):=by
  subst h
  kernel_rfl
 have e2:numF (.mk op S N (.mk v1 v2 v3 v4 v5) (.mk p1 p2 p3) Ts By As)=true:=by
  subst h
  kernel_rfl
 have e3:(op==43)=false:=by
  subst h
  rfl
 refine⟨(S.length==0&&N.length==0&&Ts.length==0)&&decide (By.length≤1), ?_, ?_⟩
 ·have k:zai t n (.mk op S N (.mk v1 v2 v3 v4 v5) (.mk p1 p2 p3) Ts By As)=un (if (IntKind.wrap .i64 (IntKind.wrap .i64 ((S.length:Int)+(N.length:Int))+(Ts.length:Int))==0)=true then(some (.inl (decide ((By.length:Int)≤1))))else(some (.inl false))):=by
   subst h
   rw[zai,hN]
   kernel_rfl
  rw[k]
  simp only[hlow,honce,zfS,zh8,zhh,zhi,zfT,gt0,zh7,z2 hn ht,z3 hn ht hb,z3 hs ht hb,z3 hs hn hb,z3 hs hn ht,z4 hs hn ht hb]
  all_goals clear e1 e2 e3 h hN hlow honce hs hn ht hb
  all_goals generalize lowF N=lo
  all_goals generalize zbg S=tw
  all_goals cases lo<;>cases tw<;>congr 1<;>rw[Bool.eq_iff_iff]<;>simp[-List.length_eq_zero_iff]<;>omega
 ·dsimp only[sOf,asOf,byOf]
  rw[anyn,anyn,e1,e2,e3]
  unfold zdu
  generalize lowF N=lo;generalize zbg S=tw;generalize S.all nameF=A;generalize As.all nameF=B
  clear e1 e2 e3 h hN hlow honce hs hn ht hb
  cases A<;>cases B<;>cases lo<;>cases tw<;>rw[Bool.eq_iff_iff]<;>simp[-List.length_eq_zero_iff]<;>omega
theorem og12 (h:op=43):OwnEq op t n (.mk op S N (.mk v1 v2 v3 v4 v5) (.mk p1 p2 p3) Ts By As):=by
 have e1:zdy (.mk op S N (.mk v1 v2 v3 v4 v5) (.mk p1 p2 p3) Ts By As) (shF op)=(decide ((1:Int)≤S.length)&&decide ((S.length:Int)≤50)&&(decide ((0:Int)≤N.length)&&decide ((N.length:Int)≤0))&&(decide ((0:Int)≤Ts.length)&&decide ((Ts.length:Int)≤0))&&(decide ((0:Int)≤By.length)&&decide ((By.length:Int)≤50))&&decide (As.length≤50)):=by
  subst h
  kernel_rfl
 have e2:numF (.mk op S N (.mk v1 v2 v3 v4 v5) (.mk p1 p2 p3) Ts By As)=true:=by
  subst h
  kernel_rfl
 have e3:(op==43)=true:=by
  subst h
  rfl
 refine⟨decide (0 < S.length)&&(N.length==0&&Ts.length==0)&&decide (By.length≤S.length)&& !zbg S, ?_, ?_⟩
 ·have k:zai t n (.mk op S N (.mk v1 v2 v3 v4 v5) (.mk p1 p2 p3) Ts By As)=un (if decide ((S.length:Int) > 0)=true then(if (IntKind.wrap .i64 ((N.length:Int)+(Ts.length:Int))==0)=true then(if decide ((By.length:Int)≤(S.length:Int))=true then(lw (t.zdp S))else(some (.inl false)))else(some (.inl false)))else(some (.inl false))):=by
   subst h
   rw[zai,hN]
   kernel_rfl
  rw[k]
  simp only[hlow,honce,zfS,zh8,zhh,zhi,zfT,gt0,zh7,z2 hn ht,z3 hn ht hb,z3 hs ht hb,z3 hs hn hb,z3 hs hn ht,z4 hs hn ht hb]
  all_goals clear e1 e2 e3 h hN hlow honce hs hn ht hb
  all_goals generalize lowF N=lo
  all_goals generalize zbg S=tw
  all_goals cases lo<;>cases tw<;>congr 1<;>rw[Bool.eq_iff_iff]<;>simp[-List.length_eq_zero_iff]<;>omega
 ·dsimp only[sOf,asOf,byOf]
  rw[anyn,anyn,e1,e2,e3]
  unfold zdu
  generalize lowF N=lo;generalize zbg S=tw;generalize S.all nameF=A;generalize As.all nameF=B
  clear e1 e2 e3 h hN hlow honce hs hn ht hb
  cases A<;>cases B<;>cases lo<;>cases tw<;>rw[Bool.eq_iff_iff]<;>simp[-List.length_eq_zero_iff]<;>omega
theorem og13 (h:op=9∨op=10∨op=11∨op=12∨op=13∨op=15∨op=16∨op=22∨op=23∨op=26∨op=27∨op=32∨op=33∨op=34∨op=35∨op=36∨op=37∨op=38∨op=51):OwnEq op t n (.mk op S N (.mk v1 v2 v3 v4 v5) (.mk p1 p2 p3) Ts By As):=by
 have e1:zdy (.mk op S N (.mk v1 v2 v3 v4 v5) (.mk p1 p2 p3) Ts By As) (shF op)=(decide ((0:Int)≤S.length)&&decide ((S.length:Int)≤0)&&(decide ((0:Int)≤N.length)&&decide ((N.length:Int)≤0))&&(decide ((0:Int)≤Ts.length)&&decide ((Ts.length:Int)≤0))&&(decide ((0:Int)≤By.length)&&decide ((By.length:Int)≤0))&&decide (As.length≤50)):=by rcases h with rfl | rfl | rfl | rfl | rfl | rfl | rfl | rfl | rfl | rfl | rfl | rfl | rfl | rfl | rfl | rfl | rfl | rfl | rfl<;>kernel_rfl
 have e2:numF (.mk op S N (.mk v1 v2 v3 v4 v5) (.mk p1 p2 p3) Ts By As)=true:=by rcases h with rfl | rfl | rfl | rfl | rfl | rfl | rfl | rfl | rfl | rfl | rfl | rfl | rfl | rfl | rfl | rfl | rfl | rfl | rfl<;>kernel_rfl
 have e3:(op==43)=false:=by rcases h with rfl | rfl | rfl | rfl | rfl | rfl | rfl | rfl | rfl | rfl | rfl | rfl | rfl | rfl | rfl | rfl | rfl | rfl | rfl<;>rfl
 refine⟨S.length==0&&N.length==0&&Ts.length==0&&By.length==0, ?_, ?_⟩
 ·have k:zai t n (.mk op S N (.mk v1 v2 v3 v4 v5) (.mk p1 p2 p3) Ts By As)=un (some (.inr (IntKind.wrap .i64 (IntKind.wrap .i64 (IntKind.wrap .i64 ((S.length:Int)+(N.length:Int))+(Ts.length:Int))+(By.length:Int))==0))):=by
   rcases h with rfl | rfl | rfl | rfl | rfl | rfl | rfl | rfl | rfl | rfl | rfl | rfl | rfl | rfl | rfl | rfl | rfl | rfl | rfl<;>(rw[zai,hN];kernel_rfl)
  rw[k]
  simp only[hlow,honce,zfS,zh8,zhh,zhi,zfT,gt0,zh7,z2 hn ht,z3 hn ht hb,z3 hs ht hb,z3 hs hn hb,z3 hs hn ht,z4 hs hn ht hb]
  all_goals clear e1 e2 e3 h hN hlow honce hs hn ht hb
  all_goals generalize lowF N=lo
  all_goals generalize zbg S=tw
  all_goals cases lo<;>cases tw<;>congr 1<;>rw[Bool.eq_iff_iff]<;>simp[-List.length_eq_zero_iff]<;>omega
 ·dsimp only[sOf,asOf,byOf]
  rw[anyn,anyn,e1,e2,e3]
  unfold zdu
  generalize lowF N=lo;generalize zbg S=tw;generalize S.all nameF=A;generalize As.all nameF=B
  clear e1 e2 e3 h hN hlow honce hs hn ht hb
  cases A<;>cases B<;>cases lo<;>cases tw<;>rw[Bool.eq_iff_iff]<;>simp[-List.length_eq_zero_iff]<;>omega
theorem og14 (h:op=24):OwnEq op t n (.mk op S N (.mk v1 v2 v3 v4 v5) (.mk p1 p2 p3) Ts By As):=by
 subst h
 have e1:zdy (.mk 24 S N (.mk v1 v2 v3 v4 v5) (.mk p1 p2 p3) Ts By As) (shF 24)=(decide ((0:Int)≤S.length)&&decide ((S.length:Int)≤0)&&(decide ((2:Int)≤N.length)&&decide ((N.length:Int)≤2))&&(decide ((0:Int)≤Ts.length)&&decide ((Ts.length:Int)≤0))&&(decide ((0:Int)≤By.length)&&decide ((By.length:Int)≤0))&&decide (As.length≤50)):=by kernel_rfl
 have e3:((24:Int)==43)=false:=by rfl
 by_cases h2:N.length=2
 ·obtain⟨x,y,rfl⟩:∃x y,N=[x,y]:=by
   match N,h2 with
   | [x,y],_=>exact⟨x,y,rfl⟩
  have e2:numF (.mk 24 S [x,y] (.mk v1 v2 v3 v4 v5) (.mk p1 p2 p3) Ts By As)=(decide (0≤x)&&(y==-1||decide (x≤y))):=by kernel_rfl
  refine⟨(S.length==0&&Ts.length==0&&By.length==0)&&(decide (0≤x)&&(y==-1||decide (x≤y))), ?_, ?_⟩
  ·have k:zai t n (.mk 24 S [x,y] (.mk v1 v2 v3 v4 v5) (.mk p1 p2 p3) Ts By As)=un (if (IntKind.wrap .i64 (IntKind.wrap .i64 ((S.length:Int)+(Ts.length:Int))+(By.length:Int))==0)=true then(if decide (x≥0)=true then(if (y==(-1))=true then some (.inl true)else some (.inl (decide (x≤y))))else(some (.inl false)))else(some (.inl false))):=by
    rw[zai,hN]
    kernel_rfl
   rw[k]
   simp only[zp8,zhh,zhi,zqO,z2 hs hb,z3 hs ht hb]
   clear k e1 e2 e3 h2 hN hlow honce hs hn ht hb
   congr 1
   rw[Bool.eq_iff_iff]
   simp only[Bool.and_eq_true,Bool.or_eq_true,decide_eq_true_eq,beq_iff_eq,Bool.not_eq_true',Bool.false_and,Bool.true_and,Bool.not_false,Bool.not_true,Bool.and_true,Bool.and_false,Bool.or_false,Bool.or_true,Bool.true_or,Bool.false_or,Bool.false_eq_true,decide_eq_false_iff_not,gt_iff_lt,and_true,and_false,false_and,true_and,iff_false,iff_self,false_iff,Bool.and_eq_false_imp,ge_iff_le,beq_eq_false_iff_ne,ne_eq,or_false]<;>omega
  ·dsimp only[sOf,asOf,byOf]
   rw[anyn,anyn,e1,e2,e3]
   unfold zdu
   generalize zbg S=tw;generalize S.all nameF=A;generalize As.all nameF=B
   clear e1 e2 e3 hN hlow honce hs hn ht hb
   cases A<;>cases B<;>cases tw<;>rw[Bool.eq_iff_iff]<;>simp only[Bool.and_eq_true,Bool.or_eq_true,decide_eq_true_eq,beq_iff_eq,Bool.not_eq_true',Bool.false_and,Bool.true_and,Bool.not_false,Bool.not_true,Bool.and_true,Bool.and_false,Bool.or_false,Bool.or_true,Bool.true_or,Bool.false_or,Bool.false_eq_true,decide_eq_false_iff_not,gt_iff_lt,and_true,and_false,false_and,true_and,iff_false,iff_self,false_iff,Bool.and_eq_false_imp,List.length_cons,List.length_nil]<;>omega
 ·have k:zai t n (.mk 24 S N (.mk v1 v2 v3 v4 v5) (.mk p1 p2 p3) Ts By As)=un (if ((N.length:Int)==2)=true then(if (IntKind.wrap .i64 (IntKind.wrap .i64 ((S.length:Int)+(Ts.length:Int))+(By.length:Int))==0)=true then(if (decide (0≤(0:Int)))=true then(match N[((0:Int)).toNat]? with | some x=>(if decide (x≥0)=true then(if (decide (0≤(1:Int)))=true then(match N[((1:Int)).toNat]? with | some y=>if (y==(-1))=true then some (.inl true)else some (.inl (decide (x≤y))) | none=>none)else none)else(some (.inl false))) | none=>none)else none)else(some (.inl false)))else(some (.inl false))):=by
   rw[zai,hN]
   kernel_rfl
  have c2:((N.length:Int)==2)=false:=by simpa using (by omega:¬(N.length:Int)=2)
  refine⟨false, ?_, ?_⟩
  ·rw[k,c2];rfl
  ·rw[e1,Bool.false_and,Bool.false_and]
   have c3:(decide ((2:Int)≤N.length)&&decide ((N.length:Int)≤2))=false:=by rw[Bool.and_eq_false_imp];intro h;simp at h⊢;omega
   rw[c3];simp
theorem og15 (h:op=48):OwnEq op t n (.mk op S N (.mk v1 v2 v3 v4 v5) (.mk p1 p2 p3) Ts By As):=by
 subst h
 have e1:zdy (.mk 48 S N (.mk v1 v2 v3 v4 v5) (.mk p1 p2 p3) Ts By As) (shF 48)=(decide ((0:Int)≤S.length)&&decide ((S.length:Int)≤0)&&(decide ((2:Int)≤N.length)&&decide ((N.length:Int)≤2))&&(decide ((1:Int)≤Ts.length)&&decide ((Ts.length:Int)≤2))&&(decide ((0:Int)≤By.length)&&decide ((By.length:Int)≤0))&&decide (As.length≤50)):=by kernel_rfl
 have e3:((48:Int)==43)=false:=by rfl
 by_cases h2:N.length=2
 ·obtain⟨x,y,rfl⟩:∃x y,N=[x,y]:=by
   match N,h2 with
   | [x,y],_=>exact⟨x,y,rfl⟩
  have e2:numF (.mk 48 S [x,y] (.mk v1 v2 v3 v4 v5) (.mk p1 p2 p3) Ts By As)=(decide (-1≤x)&&decide (0≤y)&&decide (y≤1)&&(Ts.length==2||decide (0≤x))):=by kernel_rfl
  refine⟨(S.length==0&&By.length==0)&&(decide (-1≤x)&&(y==0||y==1)&&(Ts.length==2||(Ts.length==1&&decide (0≤x)))), ?_, ?_⟩
  ·have k:zai t n (.mk 48 S [x,y] (.mk v1 v2 v3 v4 v5) (.mk p1 p2 p3) Ts By As)=un (if (IntKind.wrap .i64 ((S.length:Int)+(By.length:Int))==0)=true then(if decide (x≥-1)=true then(if (y==0)=true then(if ((Ts.length:Int)==2)=true then some (.inl true)else if ((Ts.length:Int)==1)=true then some (.inl (decide (x≥0)))else some (.inl false))else if (y==1)=true then(if ((Ts.length:Int)==2)=true then some (.inl true)else if ((Ts.length:Int)==1)=true then some (.inl (decide (x≥0)))else some (.inl false))else some (.inl false))else(some (.inl false)))else(some (.inl false))):=by
    rw[zai,hN]
    kernel_rfl
   rw[k]
   simp only[zp8,zhh,zhi,zqO,z2 hs hb,z3 hs ht hb]
   clear k e1 e2 e3 h2 hN hlow honce hs hn ht hb
   congr 1
   rw[Bool.eq_iff_iff]
   simp only[Bool.and_eq_true,Bool.or_eq_true,decide_eq_true_eq,beq_iff_eq,Bool.not_eq_true',Bool.false_and,Bool.true_and,Bool.not_false,Bool.not_true,Bool.and_true,Bool.and_false,Bool.or_false,Bool.or_true,Bool.true_or,Bool.false_or,Bool.false_eq_true,decide_eq_false_iff_not,gt_iff_lt,and_true,and_false,false_and,true_and,iff_false,iff_self,false_iff,Bool.and_eq_false_imp,ge_iff_le,beq_eq_false_iff_ne,ne_eq,or_false]<;>omega
  ·dsimp only[sOf,asOf,byOf]
   rw[anyn,anyn,e1,e2,e3]
   unfold zdu
   generalize zbg S=tw;generalize S.all nameF=A;generalize As.all nameF=B
   clear e1 e2 e3 hN hlow honce hs hn ht hb
   cases A<;>cases B<;>cases tw<;>rw[Bool.eq_iff_iff]<;>simp only[Bool.and_eq_true,Bool.or_eq_true,decide_eq_true_eq,beq_iff_eq,Bool.not_eq_true',Bool.false_and,Bool.true_and,Bool.not_false,Bool.not_true,Bool.and_true,Bool.and_false,Bool.or_false,Bool.or_true,Bool.true_or,Bool.false_or,Bool.false_eq_true,decide_eq_false_iff_not,gt_iff_lt,and_true,and_false,false_and,true_and,iff_false,iff_self,false_iff,Bool.and_eq_false_imp,List.length_cons,List.length_nil]<;>omega
 ·have k:zai t n (.mk 48 S N (.mk v1 v2 v3 v4 v5) (.mk p1 p2 p3) Ts By As)=un (if (IntKind.wrap .i64 ((S.length:Int)+(By.length:Int))==0)=true then(if ((N.length:Int)==2)=true then(if (decide (0≤(0:Int)))=true then(match N[((0:Int)).toNat]? with | some x=>(if decide (x≥(-1))=true then(if (decide (0≤(1:Int)))=true then(match N[((1:Int)).toNat]? with | some y=>(if (y==0)=true then(if ((Ts.length:Int)==2)=true then some (.inl true)else if ((Ts.length:Int)==1)=true then some (.inl (decide (x≥0)))else some (.inl false))else if (y==1)=true then(if ((Ts.length:Int)==2)=true then some (.inl true)else if ((Ts.length:Int)==1)=true then some (.inl (decide (x≥0)))else some (.inl false))else some (.inl false)) | none=>none)else none)else(some (.inl false))) | none=>none)else none)else(some (.inl false)))else(some (.inl false))):=by
   rw[zai,hN]
   kernel_rfl
  have c2:((N.length:Int)==2)=false:=by simpa using (by omega:¬(N.length:Int)=2)
  refine⟨false, ?_, ?_⟩
  ·rw[k,c2];cases (IntKind.wrap .i64 ((S.length:Int)+(By.length:Int))==0)<;>rfl
  ·rw[e1,Bool.false_and,Bool.false_and]
   have c3:(decide ((2:Int)≤N.length)&&decide ((N.length:Int)≤2))=false:=by rw[Bool.and_eq_false_imp];intro h;simp at h⊢;omega
   rw[c3];simp
end
end Go.Proofs.YtgmidllbkjdnnaaGreatDoor.W
