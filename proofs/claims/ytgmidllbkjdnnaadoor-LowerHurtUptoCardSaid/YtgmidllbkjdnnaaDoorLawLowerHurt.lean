/- The statement LowerHurt (the second form), out of the plain statement over its function. -/
import Derived.Test.YtgmidllbkjdnnaaDoorCards
import Derived.Test.YtgmidllbkjdnnaaDoorTie
import Derived.Test.YtgmidllbkjdnnaaDoorL6E
import Derived.Test.YtgmidllbkjdnnaaDoorPureLowerHurt
import Derived.Test.YtgmidllbkjdnnaaDoorL6X
import Derived.WalkKit
import Derived.ProofKit
import Derived.OpenShut
import Derived.ShutString
import Derived.ChangeOld
import Derived.Below
import Derived.SizedLaws
import Derived.Deep.DeepHandedRow
import Derived.Lib.LaidTab
import Derived.JoinedCond
import Derived.SevenTiedAt
namespace Go.Proofs.YtgmidllbkjdnnaaDoor.lowerHurt
open Go.ChangeShapes Go.WideShapes Go.ChangeAt Go.RowKit Go.Proofs.YtgmidllbkjdnnaaDoor.Flat Go.Proofs.YtgmidllbkjdnnaaDoor.W
open Go.ChangeMaps (open_string shut_string)
set_option linter.unusedVariables false
theorem zo4:ownKnob Tryd.prog.godebug=none:=by kernel_rfl
theorem laidOut:laidOutB Tryd.prog=true:=by kernel_rfl
theorem tys:tysOk Tryd.prog [3,4,5,9,22,35,37,38,40,41,43,56,57,59,73]=true:=by kernel_rfl
theorem znZ {H:Type} (d:DataW H):1≤Rows.uptoBulk d:=by
  cases d with
  | lit l=>cases l<;>simp[Rows.uptoBulk]
  | _=>simp[Rows.uptoBulk]
theorem zn0 {H : Type} : ∀ l : List (DataW H), Rows.uptoBulkAll l = (l.map Rows.uptoBulk).sum
  | []=>by simp[Rows.uptoBulkAll]
  | d::l=>by rw[Rows.uptoBulkAll,zn0 l,List.map_cons,List.sum_cons]
theorem zn1 {H:Type} (b:List UInt8):b.length+1≤Rows.uptoBulk (DataW.lit (H:=H) (.string b)):=by simp[Rows.uptoBulk]
theorem zn2 {H:Type} (l:List (DataW H)):(l.map Rows.uptoBulk).sum+1≤Rows.uptoBulk (.agg l):=by simp only[Rows.uptoBulk,zn0];omega
theorem zoR {H:Type} (l m:List (DataW H)):(l.map Rows.uptoBulk).sum+1≤Rows.uptoBulk (.slice l m):=by simp only[Rows.uptoBulk,zn0];omega
theorem glob {W:World} (h:laidMetH Tryd.prog Rows.lowerHurtUptoRow.laid W):GlOk W [] []:=by
  obtain⟨q1,q2⟩:=zlS (P:=Tryd.prog) (name:= "wayfarer/plan.names") (bs:=gl0) (rest:=[]) (show Tryd.prog.globalNamed "wayfarer/plan.names"=some 0 by kernel_rfl) (show(Tryd.prog.globals[0]?).map (·.type)=some 121 by kernel_rfl) Tryd.underlying121 Tryd.underlying9 (by kernel_rfl) (by kernel_rfl) (by decide) h
  intro g x hx
  have hx:(if g=0 then some (T.st (texts gl0))else none)=some x:=hx
  by_cases hg:g=0
  · rw[if_pos hg]at hx
    cases hx
    subst hg
    exact⟨⟨q1,by simp,by simp⟩,q2⟩
  · rw[if_neg hg]at hx;cases hx
noncomputable def laidWorld (os:Os):World:=
  { World.holding Tryd.prog os ⟨#[], #[], []⟩ with heap := (World.holding Tryd.prog os ⟨#[], #[], []⟩).heap.modify 0 fun
      | .cells _ t frozen=>.cells (gl0.map Value.string).toArray t frozen
      | o=>o}
theorem zn3 (os:Os):laidMet Tryd.prog Rows.lowerHurtUptoRow.laid ((laidWorld os).forCall (fun _ _=>0) ⟨#[], #[.slice none 0 0,.int .i64 0,.int .u8 0],[]⟩).memory:=
  laidMet_of_run' 8 (by kernel_rfl) (by kernel_rfl)
theorem reads (os:Os) {H:Type} (enc:TypeId × Value→H):∃places,DataW.whole enc Tryd.prog ((laidWorld os).forCall (fun _ _=>0) ⟨#[], #[.slice none 0 0,.int .i64 0,.int .u8 0],[]⟩).memory Tryd.f5.params.toList Rows.lowerHurtSpec.vars false [.slice none 0 0,.int .i64 0,.int .u8 0] 12=some ([.nil,.lit (.int .i64 0),.lit (.int .u8 0)],[],places):=
  ⟨[],by kernel_rfl⟩
set_option maxRecDepth 100000 in
theorem lifted (os : Os) (started : os.Started) (H : Type) (enc : TypeId × Value → H) (F : Stop.Interp) :
    ReturnsInHanded {} Tryd.checked os 5 .any ((Rows.OpenSpec.upto Rows.lowerHurtSpec).preRow enc Tryd.prog Tryd.f5 Rows.lowerHurtUptoRow.domain false Rows.lowerHurtUptoRow.laid) (((Rows.OpenSpec.upto Rows.lowerHurtSpec).at F).post enc Tryd.prog Tryd.f5 false true false false):=by
  obtain⟨places,hx⟩:=reads os enc
  refine returnsInHanded_of_row (C := Tryd.checked) (s := Rows.OpenSpec.upto Rows.lowerHurtSpec) zo4 started (by kernel_rfl) Tryd.func5
    (witness_row_at (enc := enc) (C := Tryd.checked) false (laidWorld os) #[.slice none 0 0, .int .i64 0, .int .u8 0] rfl (by kernel_rfl) (by kernel_rfl) (by kernel_rfl)
      (OpenSpec.preRow_of_cond 12 hx (by kernel_rfl) (fun k hk=>by cases hk;kernel_rfl) (by kernel_rfl) (zn3 os))) ?_
  intro W base args ds gs before hval0 hW hcnd hcond hsz0 hL _ _
  have hk:Rows.uptoSmall H (ds++gs)=true:=hcond _ rfl
  have gok:=glob hL
  clear hL
  have hsz:(DataW.weightsEach Tryd.prog (Tryd.f5.params.toList++Rows.lowerHurtSpec.plain.varTypes Tryd.prog) (ds++gs)).all (·≤reachBytes)=true:=hsz0
  have hval:∀(j:Nat) t v,Tryd.f5.params[j]?=some t→args[j]?=some v→Value.okWide Tryd.prog W .any base t v:=hval0
  have hW':=hW
  obtain⟨p,q,hA0,hV,rfl,hfz,hnd⟩:=hW
  have hA:DataW.TrodAll enc Tryd.prog W 0 (fun _=>true) true Tryd.f5.params.toList args.toList ds p:=hA0
  rw[Tryd.params5]at hA hval hsz
  obtain⟨v0,vs0,d0,ds0,p0,q0,hargs,rfl,rfl,h0,r0⟩:=trodAll_cons hA
  obtain⟨v1,vs1,d1,ds1,p1,q1,rfl,rfl,rfl,h1,r1⟩:=trodAll_cons r0
  obtain⟨v2,vs2,d2,ds2,p2,q2,rfl,rfl,rfl,h2,r2⟩:=trodAll_cons r1
  obtain⟨rfl,rfl,rfl⟩:=trodAll_nil r2
  obtain rfl:args= #[v0,v1,v2]:=by cases args;simp_all
  obtain⟨rfl,rfl⟩:=trodVars_none hV
  have hb:Rows.uptoBulkAll ([d0,d1,d2]++([]:List (DataW H)))≤1048576:=of_decide_eq_true hk
  rw[List.append_nil]at hb
  simp only[Rows.uptoBulkAll]at hb
  have k0:=h0
  have lt0:∀x∈p0,x.block < W.heap.size:=by obtain⟨m,hm⟩:=k0;exact DataW.trod_lt m _ _ _ hm
  have wt0:∀z∈d0.weights Tryd.prog 22,z≤reachBytes:=fun z hz=>by
    have:=List.all_eq_true.1 hsz z (DataW.weights_mem_each (j:=0) (t:=22) (d:=d0) rfl rfl z hz)
    simpa using this
  obtain⟨fu0,hf0⟩:=h0
  obtain⟨y0,rp0,ty0,bk0⟩:=zil (u:=Rows.uptoBulk) znZ zn1 zn2 zoR tys fu0 22 (by decide) _ _ hf0 wt0
  dsimp only at bk0
  obtain⟨a0,len0,cap0,rfl⟩:=okWide_slice Tryd.underlying22 (hval 0 22 v0 rfl rfl)
  obtain⟨x0,rfl,_,_⟩:=zdA (Q:=(fun _=>True)) GStep.zl Tryd.underlying22 (show _=14 from by kernel_rfl) (show _=264 from by kernel_rfl) (fun j hj y hy=>by obtain⟨a,e,_⟩:=GStep.of j y hy;exact⟨a,e,trivial⟩) ty0
  have rt0:RepT W (pubE W) (.sl false 14 (GStep.ts x0)) (.slice a0 len0 cap0) []:=⟨_,rp0,rfl⟩
  have k1:=h1
  have lt1:∀x∈p1,x.block < W.heap.size:=by obtain⟨m,hm⟩:=k1;exact DataW.trod_lt m _ _ _ hm
  have wt1:∀z∈d1.weights Tryd.prog 3,z≤reachBytes:=fun z hz=>by
    have:=List.all_eq_true.1 hsz z (DataW.weights_mem_each (j:=1) (t:=3) (d:=d1) rfl rfl z hz)
    simpa using this
  obtain⟨fu1,hf1⟩:=h1
  obtain⟨y1,rp1,ty1,bk1⟩:=zil (u:=Rows.uptoBulk) znZ zn1 zn2 zoR tys fu1 3 (by decide) _ _ hf1 wt1
  dsimp only at bk1
  obtain⟨x1,rfl,wf1⟩:=zeB Tryd.underlying3 ty1
  obtain⟨o1,rfl,_⟩:∃o,v1=.int .i64 o∧True:=by
    obtain⟨o,h1,h2,h3,_⟩:=open_int Tryd.underlying3 (hval 1 3 v1 rfl rfl) k1
    first | exact⟨o,h1,trivial⟩ | exact⟨o,h2,trivial⟩ | exact⟨o,h3,trivial⟩
  have rt1:RepT W (pubE W) (.v (.int .i64 x1)) (.int .i64 o1) []:=by
    have rp:=rp1
    rw[Rep]at rp
    obtain⟨rp1,_,_⟩:=rp
    simp[Value.cells]at rp1
    subst rp1
    exact zeA rfl _ _
  have k2:=h2
  have lt2:∀x∈p2,x.block < W.heap.size:=by obtain⟨m,hm⟩:=k2;exact DataW.trod_lt m _ _ _ hm
  have wt2:∀z∈d2.weights Tryd.prog 5,z≤reachBytes:=fun z hz=>by
    have:=List.all_eq_true.1 hsz z (DataW.weights_mem_each (j:=2) (t:=5) (d:=d2) rfl rfl z hz)
    simpa using this
  obtain⟨fu2,hf2⟩:=h2
  obtain⟨y2,rp2,ty2,bk2⟩:=zil (u:=Rows.uptoBulk) znZ zn1 zn2 zoR tys fu2 5 (by decide) _ _ hf2 wt2
  dsimp only at bk2
  obtain⟨x2,rfl,wf2⟩:=zeB Tryd.underlying5 ty2
  obtain⟨o2,rfl,_⟩:∃o,v2=.int .u8 o∧True:=by
    obtain⟨o,h1,h2,h3,_⟩:=open_int Tryd.underlying5 (hval 2 5 v2 rfl rfl) k2
    first | exact⟨o,h1,trivial⟩ | exact⟨o,h2,trivial⟩ | exact⟨o,h3,trivial⟩
  have rt2:RepT W (pubE W) (.v (.int .u8 x2)) (.int .u8 o2) []:=by
    have rp:=rp2
    rw[Rep]at rp
    obtain⟨rp1,_,_⟩:=rp
    simp[Value.cells]at rp1
    subst rp1
    exact zeA rfl _ _
  have hwt:wts [.sl false 14 (GStep.ts x0),.v (.int .i64 x1),.v (.int .u8 x2)]≤1048576:=by simp only[wts];omega
  clear hA0 hval0 hsz0 hsz
  obtain⟨n,hn⟩:=Pure.LowerHurt x0 x1 x2 hwt wf1 wf2
  have hrun:=(zai n).zbe _ _ _ true hn
  have hok:=zni (Checked.mixed Tryd.checked) zo3 n _ _ _ _ _ hrun
  refine(znj (ys:=[.sl false 14 (GStep.ts x0),.v (.int .i64 x1),.v (.int .u8 x2)]) Tryd.func5 (by kernel_rfl) (by kernel_rfl) gok ⟨_,_,rfl,rt0,⟨_,_,rfl,rt1,⟨_,_,rfl,rt2,rfl⟩⟩⟩ hok).mono fun e W' ⟨he,bel⟩=> ?_
  subst he
  exact⟨_,rfl,_,_,_,[],_,[],hW',trodAll_mk1 (shut_bool Tryd.underlying4 _),(trodAll_cons_mk (Below.trod laidOut (by kernel_rfl) (of_decide_eq_true (by kernel_rfl)) k0 bel lt0) (trodAll_cons_mk (Below.trod laidOut (by kernel_rfl) (of_decide_eq_true (by kernel_rfl)) k1 bel lt1) (trodAll_cons_mk (Below.trod laidOut (by kernel_rfl) (of_decide_eq_true (by kernel_rfl)) k2 bel lt2) trodAll_mk0))),rfl,bel.frame _,fun h=>by cases h⟩
theorem over:Rows.lowerHurtUptoRow.holds Tryd.pinned (Rows.OpenSpec.upto Rows.lowerHurtSpec):=
  OpenClaim.holds_of_cond 5 Tryd.f5 rfl rfl rfl rfl rfl rfl rfl ⟨rfl, rfl, rfl, rfl, rfl⟩ rfl rfl rfl rfl rfl (by kernel_rfl) Tryd.func5 (by kernel_rfl)
    (of_decide_eq_true (by kernel_rfl)) (by unfold Func.isWrapper;first | (rw[if_pos (by decide+kernel)];kernel_rfl) | (rw[if_neg (by decide+kernel)];exact⟨rfl,rfl⟩))
    (fun os started H enc _ F=>by rw[OpenClaim.pre_eq_preRow];exact lifted os started H enc F)
theorem plain (f : FuncId) (fn : Func) (hf : Tryd.pinned.checked.prog.funcNamed "wayfarer/wayfarerlaw21.LowerHurt" = some f) (hfn : Tryd.pinned.checked.prog.funcs[f]? = some fn) :
    false=Tryd.pinned.checked.prog.looks []∧∀(j:Nat) t,fn.params[j]?=some t→Tryd.pinned.checked.prog.wantsStandIn t=false:=by
  obtain rfl:f=5:=Option.some.inj ((show Tryd.prog.funcNamed "wayfarer/wayfarerlaw21.LowerHurt"=some 5 by kernel_rfl).symm.trans hf) |>.symm
  obtain rfl:fn=Tryd.f5:=(Option.some.inj (Tryd.func5.symm.trans hfn)).symm
  refine⟨by kernel_rfl,fun j t ht=> ?_⟩
  rw[Tryd.params5]at ht
  have hm:=Array.mem_of_getElem? ht
  have key:([22,3,5]:List TypeId).all (fun t=> !(Tryd.pinned.checked.prog.wantsStandIn t))=true:=by kernel_rfl
  have h4:=List.all_eq_true.1 key t (by simpa using hm)
  simpa using h4
theorem proved:Rows.LowerHurtUptoCardSaid:=
  Claim7.holds_tied_plain_at .later [] _ _ _ _ over (fun _ h=>by cases h) (by kernel_rfl) (fun _ h=>by cases h) lowerHurtUpto_row_tie rfl ⟨rfl,rfl⟩ (by kernel_rfl) rfl plain (by kernel_rfl)
#print axioms proved
end Go.Proofs.YtgmidllbkjdnnaaDoor.lowerHurt
namespace Go.Proofs.YtgmidllbkjdnnaaDoor
theorem lowerHurt_holds:Rows.LowerHurtUptoCardSaid:=lowerHurt.proved
end Go.Proofs.YtgmidllbkjdnnaaDoor
