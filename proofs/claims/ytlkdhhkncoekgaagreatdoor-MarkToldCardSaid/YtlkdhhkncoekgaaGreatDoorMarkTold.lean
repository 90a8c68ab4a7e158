/- The law MarkTold (nothing is told just where what is kept is alike; what is kept is right, in normal form, and no line of it is empty, where such cannot be said) returns true for every dialect, text and blank; the row list is its only condition. -/
import Derived.Test.YtlkdhhkncoekgaaGreatDoorToldL
import Derived.Test.YtlkdhhkncoekgaaGreatDoorArg
import Derived.Test.YtlkdhhkncoekgaaGreatDoorCards
import Derived.Test.YtlkdhhkncoekgaaGreatDoorTie
import Derived.SevenTiedAt
import Derived.Carry
namespace Go.Proofs.YtlkdhhkncoekgaaGreatDoor.markTold
open Go.ChangeShapes Go.WideShapes Go.ChangeAt Go.RowKit Go.Am Go
theorem walk {W:World} (hL:laidMet Tryz.prog AY W) (a0:Int) (a1:ByteArray) (v1:Value) (Ub Iu:List av) (VM:tj W v1 Ub Iu) (a2:Bool) :
  Calls Tryz.prog 4 #[.int .i64 a0,.agg #[.string a1,v1],.bool a2] W fun e W'=>e=.returned (.bool true)∧Go.RowKit.Below W.heap.size W W':=by
 obtain ⟨e1,e2,hH⟩:=start hL
 obtain ⟨q,E',H',hR,hq,hv,hle,hn,ho,XC⟩:=FJ hH (xP e1 e2) VM
 have hG:lu≤H'.n:=hn
 have hT:gm (bO e1 e2) H':=fun t ht=>by
  have:=(qf e1 e2 t ht).1
  rw [j5] at this
  rw [ho _ this];exact xO e1 e2 t ht
 refine (G8 e1 e2 a0 a1.data.toList a2 hT hG hq _ _ W #[.int .i64 a0,.agg #[.string a1,v1],.bool a2] hR ⟨_,_,rfl,rfl,_,_,rfl,⟨_,rfl,_,_,rfl,rfl,_,_,rfl,hv,rfl⟩,_,_,rfl,rfl,rfl⟩).mono ?_
 rintro e W' ⟨v,H2,E2,x,rfl,rfl,_,_,hx,hb⟩
 obtain rfl:x=_:=hx
 exact ⟨rfl,hb.old⟩
theorem readable:(Tryz.f4.params.toList.all fun t=>Tryz.prog.readableRec t && decide (t<Tryz.prog.types.size))=true:=by kernel_rfl
theorem results:Tryz.f4.resultTypes = #[4]:=by kernel_rfl
theorem T9:Tryz.prog.underlying 3=some (.int .i64):=by kernel_rfl
theorem MA:Tryz.prog.underlying 4=some .bool:=by kernel_rfl
set_option maxRecDepth 100000 in
theorem open_bool {Hh:Type} {enc:TypeId×Value→Hh} {W:World} {v:Value} {d:DataW Hh} {p:List MemPlace} (oJ:Value.okWide Tryz.prog W .any 0 4 v) (_:DataW.Trod enc Tryz.prog W 0 (fun _=>true) true 4 v d p) : ∃b,v=.bool b:=by
 unfold Value.okWide Cell.okWide Cell.ok at oJ
 rw [MA] at oJ
 cases v <;> first | exact ⟨_,rfl⟩ | exact absurd oJ id
set_option maxRecDepth 100000 in
theorem Jv (H:Type) (enc:TypeId×Value→H) (W:World) (base:Nat) (args:Array Value) (ds gs:List (DataW H)) (before:List MemPlace)
  (FX : ∀(j:Nat) t v,Tryz.f4.params[j]? = some t→args[j]? = some v→Value.okWide Tryz.prog W .any base t v)
  (hW:DataW.Whole enc Tryz.prog Tryz.f4.params.toList Rows.markToldSpec.vars false W args.toList ds gs before) (hL:laidMetH Tryz.prog Rows.markToldRow.laid W) :
  Calls Tryz.prog 4 args W fun e W'=>∃v,e=.returned v∧Rows.markToldSpec.post enc Tryz.prog Tryz.f4 false true false false W args v W':=by
 have VH:=hW
 obtain ⟨p,q,Nq,hV,rfl,LL,hnd⟩:=VH
 have hA:DataW.TrodAll enc Tryz.prog W 0 (fun _=>true) true Tryz.f4.params.toList args.toList ds p:=Nq
 rw [Tryz.params4] at hA FX
 obtain ⟨v0,v1,v2,d0,d1,d2,p0,p1,p2,rfl,rfl,rfl,h0,h1,h2⟩:=trodAll_three hA
 obtain ⟨rfl,rfl⟩:=trodVars_none hV
 obtain ⟨a0,rfl,rfl,rfl,wa0⟩:=open_int T9 (FX 0 3 v0 rfl rfl) h0
 obtain ⟨a1,s1,Ub,Iu,rfl,VM⟩:=Fx (BE (FX 1 24 v1 rfl rfl)) h1
 obtain ⟨a2,rfl⟩:=open_bool (BE (FX 2 4 v2 rfl rfl)) h2
 refine (walk hL a0 a1 s1 Ub Iu VM a2).mono fun e W' ⟨he,hb⟩=>?_
 subst he
 exact ⟨_,rfl,Ih laidOut hW rfl readable hb rfl results MA⟩
def DE:Array Value:=#[.int .i64 0,.agg #[.string ⟨#[]⟩,.slice none 0 0],.bool false]
theorem IA (os:Os):laidMet Tryz.prog Rows.markToldRow.laid ((qy os).forCall (fun _ _=>0) ⟨#[],DE,[]⟩).memory :=
 laidMet_of_run3 8 (by kernel_rfl) (by kernel_rfl) (by kernel_rfl)
theorem reads (os:Os) {H:Type} (enc:TypeId×Value→H) : ∃places,DataW.whole enc Tryz.prog ((qy os).forCall (fun _ _=>0) ⟨#[],DE,[]⟩).memory Tryz.f4.params.toList Rows.markToldSpec.vars false DE.toList 8=some ([.lit (.int .i64 0),.agg [.lit (.string []),.nil],.lit (.bool false)],[],places) :=
 ⟨[],by kernel_rfl⟩
set_option maxRecDepth 100000 in
theorem lifted (os:Os) (started:os.Started) (H:Type) (enc:TypeId×Value→H) (F:Stop.Interp) :
  ReturnsInHanded {} Tryz.checked os 4 .any ((OpenSpec.ofChange Rows.markToldSpec).preRow enc Tryz.prog Tryz.f4 Rows.markToldRow.domain false Rows.markToldRow.laid) (((OpenSpec.ofChange Rows.markToldSpec).at F).post enc Tryz.prog Tryz.f4 false true false false):=by
 obtain ⟨places,hx⟩:=reads os enc
 refine returnsInHanded_of_row (C:=Tryz.checked) (s:=OpenSpec.ofChange Rows.markToldSpec) own started (by kernel_rfl) Tryz.func4
  (witness_row_at (enc:=enc) (C:=Tryz.checked) false (qy os) DE rfl (by kernel_rfl) (by kernel_rfl) (by kernel_rfl)
   (OpenSpec.preRow_of_cond 8 hx (by kernel_rfl) (fun k hk=>by cases hk) (by kernel_rfl) (IA os))) ?_
 intro W base args ds gs before FX hW _ _ _ hL _ _
 exact Jv H enc W base args ds gs before FX hW hL
theorem said:Rows.MarkToldSaid :=
 OpenClaim.holds_of_cond 4 Tryz.f4 rfl rfl rfl rfl rfl rfl rfl ⟨rfl,rfl,rfl,rfl,rfl⟩ rfl rfl rfl rfl rfl (by kernel_rfl) Tryz.func4 (by kernel_rfl)
  (of_decide_eq_true (by kernel_rfl)) (by unfold Func.isWrapper;first | (rw [if_pos (by decide +kernel)];kernel_rfl) | (rw [if_neg (by decide +kernel)];exact ⟨rfl,rfl⟩))
  (fun os started H enc _ F=>by rw [OpenClaim.pre_eq_preRow];exact lifted os started H enc F)
theorem AI:Tryz.pinned.checked.prog.wantsStandIn 4=false:=by kernel_rfl
theorem CM:Tryz.pinned.checked.prog.wantsStandIn 3=false:=by kernel_rfl
theorem AG:Tryz.pinned.checked.prog.wantsStandIn 24=false:=by kernel_rfl
theorem plain (f:FuncId) (fn:Func) (hf:Tryz.pinned.checked.prog.funcNamed "surtitle/surtitlelaw8.MarkTold" = some f) (hfn:Tryz.pinned.checked.prog.funcs[f]? = some fn) :
  true=Tryz.pinned.checked.prog.looks []∧∀(j:Nat) t,fn.params[j]? = some t→Tryz.pinned.checked.prog.wantsStandIn t=false:=by
 obtain rfl:f=4:=Option.some.inj ((show Tryz.prog.funcNamed "surtitle/surtitlelaw8.MarkTold" = some 4 by kernel_rfl).symm.trans hf) |>.symm
 obtain rfl:fn=Tryz.f4:=(Option.some.inj (Tryz.func4.symm.trans hfn)).symm
 refine ⟨by kernel_rfl,fun j t ht=>?_⟩
 rw [Tryz.params4] at ht
 match j,ht with
 | 0,ht =>
  obtain rfl:3=t:=by simpa using ht
  exact CM
 | 1,ht =>
  obtain rfl:24=t:=by simpa using ht
  exact AG
 | 2,ht =>
  obtain rfl:4=t:=by simpa using ht
  exact AI
 | j+3,ht=>simp at ht
theorem card:Rows.MarkToldCardSaid :=
 Claim7.holds_tied_plain_at .later [] _ _ _ _ said (fun _ h=>by cases h) (by kernel_rfl) (fun _ h=>by cases h) markTold_row_tie rfl ⟨rfl,rfl⟩ (by kernel_rfl) rfl plain (by kernel_rfl)
end Go.Proofs.YtlkdhhkncoekgaaGreatDoor.markTold
