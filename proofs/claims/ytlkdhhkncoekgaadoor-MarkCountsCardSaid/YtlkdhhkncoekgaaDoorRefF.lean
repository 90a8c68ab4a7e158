/- A text in normal form is right, and its normal form is itself, by the reference's functions. -/
import Derived.Test.YtlkdhhkncoekgaaDoorRefE
section
namespace Go.Proofs.YtlkdhhkncoekgaaDoor
open Go.Am Go
structure kM (s:List UInt8) (L:List aj) (so:List ay):Prop where
 ep:aD s L.length
 len:s.length≤4096
 c : ∀a ∈ L,0≤a.c∧a.c≤16777216
 eq:so=cq (bN L)
 Jx:so.length≤256
theorem kM.perm {s:List UInt8} {L:List aj} {so:List ay} (h:kM s L so):so.Perm (bN L):=by rw [h.eq];exact Bp L
theorem kM.fits {s:List UInt8} {L:List aj} {so:List ay} (h:kM s L so) : ∀x ∈ so,dO x L.length=true:=fun _ hx=>Ei h.c (h.perm.mem_iff.1 hx)
theorem kM.AM {s:List UInt8} {L:List aj} {so:List ay} (h:kM s L so) : ∀x ∈ so,∀y ∈ so,bu x y=false:=fun _ hx _ hy=>ze (h.perm.mem_iff.1 hx) (h.perm.mem_iff.1 hy)
theorem kM.v {s:List UInt8} {L:List aj} {so:List ay} (h:kM s L so) : ∀x ∈ so,-1000000000≤x.v∧x.v≤1000000000:=fun x hx=>CI (h.fits x hx)
theorem kM.looks {s:List UInt8} {L:List aj} {so:List ay} (h:kM s L so):L.length≤4096:=by have:=dJ h.ep.2;have:=h.ep.1;have:=h.len;omega
end Go.Proofs.YtlkdhhkncoekgaaDoor
end
