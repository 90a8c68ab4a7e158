/- What is known of what was kept of a right text. -/
import Derived.Test.YtlkdhhkncoekgaaDoorChkG
import Derived.Test.YtlkdhhkncoekgaaDoorKeepP
import Derived.Test.YtlkdhhkncoekgaaDoorKeepF
namespace Go.Proofs.YtlkdhhkncoekgaaDoor
open Go.Am Go
theorem tw {K:AH} {b n i:Nat} {F:Nat→aj} {e:TypeId} {fl:Fl} (h:K.get b=some (.cells (flat aj.cells ((List.range n).map F)) e fl)) (hi:i<n):K.read b (0+((i:Nat):Int).toNat*5) 5=some (F i).cells:=by
 have hl:((List.range n).map F).length=n:=by simp
 have:=dr aj.aG h (i:=i) (by omega)
 rw [Int.toNat_natCast,this]
 simp only [List.getElem_map,List.getElem_range]
theorem Et (a b:aj):(a.b == b.b && (a.i == b.i && (a.u == b.u && (a.k == b.k && (a.c == b.c && true)))))=cW a b:=by unfold cW;simp [Bool.and_assoc]
structure Kept (d:Int) (bl:Bool) (s:List UInt8) (L:Nat→aj) (n:Nat) (S:List UInt8) (sp:List ay) (sg en sn:Nat):Prop where
 norm:kM S ((dK d (eL bl (eE d bl s L n)).l).1.map Prod.snd) sp
 text:S=aF (eL bl (eE d bl s L n)).l
 sg:sg=(eL bl (eE d bl s L n)).sg
 en:en=(eL bl (eE d bl s L n)).en
 sn:sn=(dK d (eL bl (eE d bl s L n)).l).2
theorem Kw {d:Int} {bl:Bool} {s:List UInt8} {n:Nat} {so:List ay} (hn:aD s n) (hr:C0 s n so) {R:cN×Nat} (hR:R=dK d (eL bl (eE d bl s (fun i:Nat=>bt so (i:Int)) n)).l)
  {er:Int} {S:List UInt8} {sp:List ay} (h:(4096<(aF R.1).length∧er=3∧S=[]∧sp=[])∨((aF R.1).length≤4096∧er=Gu (cq (bN (R.1.map Prod.snd)))∧S=BF (cq (bN (R.1.map Prod.snd))) (aF R.1)∧sp=lg (cq (bN (R.1.map Prod.snd))))) :
  (er ≠ 0∧(er=3∨er=2))∨(er=0∧Kept d bl s (fun i:Nat=>bt so (i:Int)) n S sp (eL bl (eE d bl s (fun i:Nat=>bt so (i:Int)) n)).sg (eL bl (eE d bl s (fun i:Nat=>bt so (i:Int)) n)).en R.2):=by
 rcases h with ⟨_,rfl,_,_⟩ | ⟨h1,h2,h3,h4⟩
 ·exact .inl ⟨by decide,.inl rfl⟩
 ·rcases Nat.lt_or_ge 256 (cq (bN (R.1.map Prod.snd))).length with g | g
  ·rw [(ki g []).1] at h2
   exact .inl ⟨by omega,.inr h2⟩
  ·rw [(jK g []).1] at h2
   rw [(jK g _).2.1] at h3
   rw [(jK g []).2.2] at h4
   have hE:=tG (d:=d) (bl:=bl) (L:=fun i:Nat=>bt so (i:Int)) hn
   have Gr:=jA d (eL bl (eE d bl s (fun i:Nat=>bt so (i:Int)) n)).l
   rw [← hR] at Gr
   have Gl:aF R.1=aF (eL bl (eE d bl s (fun i:Nat=>bt so (i:Int)) n)).l:=by rw [hR];exact th _ _
   refine .inr ⟨h2,⟨?_,?_,?_,?_,?_⟩,by rw [h3];exact Gl,rfl,rfl,by rw [hR]⟩
   ·rw [← hR,h3,Gl,List.length_map,Gr.len];exact hE.ep
   ·rw [h3];exact h1
   ·rw [← hR]
    intro a ha
    obtain ⟨p,hp,rfl⟩:=List.mem_map.1 ha
    refine Gr.ok (fun p hp=>?_) p hp
    obtain ⟨i,_,e⟩:=hE.from_ p hp
    rw [e];exact Ad hr.fits hr.AM i
   ·rw [← hR,h4]
   ·rw [h4];exact g
end Go.Proofs.YtlkdhhkncoekgaaDoor
