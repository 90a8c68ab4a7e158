/- The law MarkCounts (as many signs as before, less the lines; each is the same, or one of the look-alikes, and so many are others) returns true for every dialect, text and blank; the row list is its only condition. -/
import Derived.Test.YtlkdhhkncoekgaaDoorCountsL
import Derived.Test.YtlkdhhkncoekgaaDoorArg
import Derived.Test.YtlkdhhkncoekgaaDoorCards
import Derived.Test.YtlkdhhkncoekgaaDoorTie
import Derived.SevenTiedAt
import Derived.Carry
namespace Go.Proofs.YtlkdhhkncoekgaaDoor.markCounts
open Go.ChangeShapes Go.WideShapes Go.ChangeAt Go.RowKit Go.Am Go
theorem walk {W:World} (hL:laidMet Tryd.prog Ai W) (a0:Int) (a1:ByteArray) (v1:Value) (Tj HI:List ay) (U0:su W v1 Tj HI) (a2:Bool) :
  Calls Tryd.prog 9 #[.int .i64 a0,.agg #[.string a1,v1],.bool a2] W fun e W'=>e=.returned (.bool true)∧Go.RowKit.Below W.heap.size W W':=by
 obtain ⟨e1,e2,hH⟩:=start hL
 obtain ⟨q,E',H',hR,hq,hv,hle,hn,ho,WI⟩:=E8 hH (wW e1 e2) U0
 have hG:kG≤H'.n:=hn
 have hT:gh (bG e1 e2) H':=fun t ht=>by
  have:=(pO e1 e2 t ht).1
  rw [jD] at this
  rw [ho _ this];exact wV e1 e2 t ht
 refine (CT e1 e2 a0 a1.data.toList a2 hT hG hq _ _ W #[.int .i64 a0,.agg #[.string a1,v1],.bool a2] hR ⟨_,_,rfl,rfl,_,_,rfl,⟨_,rfl,_,_,rfl,rfl,_,_,rfl,hv,rfl⟩,_,_,rfl,rfl,rfl⟩).mono ?_
 rintro e W' ⟨v,H2,E2,x,rfl,rfl,_,_,hx,hb⟩
 obtain rfl:x=_:=hx
 exact ⟨rfl,hb.old⟩
theorem readable:(Tryd.f9.params.toList.all fun t=>Tryd.prog.readableRec t && decide (t<Tryd.prog.types.size))=true:=by kernel_rfl
theorem results:Tryd.f9.resultTypes = #[4]:=by kernel_rfl
theorem Tg:Tryd.prog.underlying 3=some (.int .i64):=by kernel_rfl
theorem LU:Tryd.prog.underlying 4=some .bool:=by kernel_rfl
set_option maxRecDepth 100000 in
theorem open_bool {Hh:Type} {enc:TypeId×Value→Hh} {W:World} {v:Value} {d:DataW Hh} {p:List MemPlace} (od:Value.okWide Tryd.prog W .any 0 4 v) (_:DataW.Trod enc Tryd.prog W 0 (fun _=>true) true 4 v d p) : ∃b,v=.bool b:=by
 unfold Value.okWide Cell.okWide Cell.ok at od
 rw [LU] at od
 cases v <;> first | exact ⟨_,rfl⟩ | exact absurd od id
set_option maxRecDepth 100000 in
theorem IQ (H:Type) (enc:TypeId×Value→H) (W:World) (base:Nat) (args:Array Value) (ds gs:List (DataW H)) (before:List MemPlace)
  (Fk : ∀(j:Nat) t v,Tryd.f9.params[j]? = some t→args[j]? = some v→Value.okWide Tryd.prog W .any base t v)
  (hW:DataW.Whole enc Tryd.prog Tryd.f9.params.toList Rows.markCountsSpec.vars false W args.toList ds gs before) (hL:laidMetH Tryd.prog Rows.markCountsRow.laid W) :
  Calls Tryd.prog 9 args W fun e W'=>∃v,e=.returned v∧Rows.markCountsSpec.post enc Tryd.prog Tryd.f9 false true false false W args v W':=by
 have UY:=hW
 obtain ⟨p,q,MI,hV,rfl,KU,hnd⟩:=UY
 have hA:DataW.TrodAll enc Tryd.prog W 0 (fun _=>true) true Tryd.f9.params.toList args.toList ds p:=MI
 rw [Tryd.params9] at hA Fk
 obtain ⟨v0,v1,v2,d0,d1,d2,p0,p1,p2,rfl,rfl,rfl,h0,h1,h2⟩:=trodAll_three hA
 obtain ⟨rfl,rfl⟩:=trodVars_none hV
 obtain ⟨a0,rfl,rfl,rfl,wa0⟩:=open_int Tg (Fk 0 3 v0 rfl rfl) h0
 obtain ⟨a1,s1,Tj,HI,rfl,U0⟩:=ES (AW (Fk 1 26 v1 rfl rfl)) h1
 obtain ⟨a2,rfl⟩:=open_bool (AW (Fk 2 4 v2 rfl rfl)) h2
 refine (walk hL a0 a1 s1 Tj HI U0 a2).mono fun e W' ⟨he,hb⟩=>?_
 subst he
 exact ⟨_,rfl,Hx laidOut hW rfl readable hb rfl results LU⟩
def C5:Array Value:=#[.int .i64 0,.agg #[.string ⟨#[]⟩,.slice none 0 0],.bool false]
theorem HN (os:Os):laidMet Tryd.prog Rows.markCountsRow.laid ((p4 os).forCall (fun _ _=>0) ⟨#[],C5,[]⟩).memory :=
 laidMet_of_run3 8 (by kernel_rfl) (by kernel_rfl) (by kernel_rfl)
theorem reads (os:Os) {H:Type} (enc:TypeId×Value→H) : ∃places,DataW.whole enc Tryd.prog ((p4 os).forCall (fun _ _=>0) ⟨#[],C5,[]⟩).memory Tryd.f9.params.toList Rows.markCountsSpec.vars false C5.toList 8=some ([.lit (.int .i64 0),.agg [.lit (.string []),.nil],.lit (.bool false)],[],places) :=
 ⟨[],by kernel_rfl⟩
set_option maxRecDepth 100000 in
theorem lifted (os:Os) (started:os.Started) (H:Type) (enc:TypeId×Value→H) (F:Stop.Interp) :
  ReturnsInHanded {} Tryd.checked os 9 .any ((OpenSpec.ofChange Rows.markCountsSpec).preRow enc Tryd.prog Tryd.f9 Rows.markCountsRow.domain false Rows.markCountsRow.laid) (((OpenSpec.ofChange Rows.markCountsSpec).at F).post enc Tryd.prog Tryd.f9 false true false false):=by
 obtain ⟨places,hx⟩:=reads os enc
 refine returnsInHanded_of_row (C:=Tryd.checked) (s:=OpenSpec.ofChange Rows.markCountsSpec) own started (by kernel_rfl) Tryd.func9
  (witness_row_at (enc:=enc) (C:=Tryd.checked) false (p4 os) C5 rfl (by kernel_rfl) (by kernel_rfl) (by kernel_rfl)
   (OpenSpec.preRow_of_cond 8 hx (by kernel_rfl) (fun k hk=>by cases hk) (by kernel_rfl) (HN os))) ?_
 intro W base args ds gs before Fk hW _ _ _ hL _ _
 exact IQ H enc W base args ds gs before Fk hW hL
theorem said:Rows.MarkCountsSaid :=
 OpenClaim.holds_of_cond 9 Tryd.f9 rfl rfl rfl rfl rfl rfl rfl ⟨rfl,rfl,rfl,rfl,rfl⟩ rfl rfl rfl rfl rfl (by kernel_rfl) Tryd.func9 (by kernel_rfl)
  (of_decide_eq_true (by kernel_rfl)) (by unfold Func.isWrapper;first | (rw [if_pos (by decide +kernel)];kernel_rfl) | (rw [if_neg (by decide +kernel)];exact ⟨rfl,rfl⟩))
  (fun os started H enc _ F=>by rw [OpenClaim.pre_eq_preRow];exact lifted os started H enc F)
theorem zX:Tryd.pinned.checked.prog.wantsStandIn 4=false:=by kernel_rfl
theorem B8:Tryd.pinned.checked.prog.wantsStandIn 3=false:=by kernel_rfl
theorem zW:Tryd.pinned.checked.prog.wantsStandIn 26=false:=by kernel_rfl
theorem plain (f:FuncId) (fn:Func) (hf:Tryd.pinned.checked.prog.funcNamed "surtitle/surtitlelaw8.MarkCounts" = some f) (Zg:Tryd.pinned.checked.prog.funcs[f]? = some fn) :
  false=Tryd.pinned.checked.prog.looks []∧∀(j:Nat) t,fn.params[j]? = some t→Tryd.pinned.checked.prog.wantsStandIn t=false:=by
 obtain rfl:f=9:=Option.some.inj ((show Tryd.prog.funcNamed "surtitle/surtitlelaw8.MarkCounts" = some 9 by kernel_rfl).symm.trans hf) |>.symm
 obtain rfl:fn=Tryd.f9:=(Option.some.inj (Tryd.func9.symm.trans Zg)).symm
 refine ⟨by kernel_rfl,fun j t ht=>?_⟩
 rw [Tryd.params9] at ht
 match j,ht with
 | 0,ht =>
  obtain rfl:3=t:=by simpa using ht
  exact B8
 | 1,ht =>
  obtain rfl:26=t:=by simpa using ht
  exact zW
 | 2,ht =>
  obtain rfl:4=t:=by simpa using ht
  exact zX
 | j+3,ht=>simp at ht
theorem card:Rows.MarkCountsCardSaid :=
 Claim7.holds_tied_plain_at .later [] _ _ _ _ said (fun _ h=>by cases h) (by kernel_rfl) (fun _ h=>by cases h) markCounts_row_tie rfl ⟨rfl,rfl⟩ (by kernel_rfl) rfl plain (by kernel_rfl)
end Go.Proofs.YtlkdhhkncoekgaaDoor.markCounts
