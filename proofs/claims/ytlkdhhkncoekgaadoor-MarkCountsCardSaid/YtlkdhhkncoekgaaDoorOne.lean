/- The sign that begins at a place, as the document reads it, byte by byte. -/
import Derived.Test.YtlkdhhkncoekgaaDoorUtf
namespace Go.Am
theorem jx {r:Nat}:Utf8.valid r=true↔(r<55296∨57344≤r)∧r≤1114111:=by
 unfold Utf8.valid
 simp only [Bool.or_eq_true,Bool.and_eq_true,decide_eq_true_eq]
 omega
def dy (c:Nat):Nat:=if c<128 then 1 else if 194≤c∧c≤223 then 2 else if 224≤c∧c≤239 then 3 else if 240≤c∧c≤244 then 4 else 0
def dV (c d:Nat):Bool :=
 if c=224 then decide (160≤d) && decide (d≤191) else if c=237 then decide (128≤d) && decide (d≤159) else if c=240 then decide (144≤d) && decide (d≤191)
 else if c=244 then decide (128≤d) && decide (d≤143) else decide (128≤d) && decide (d≤191)
def iw (s:List UInt8) (i:Nat):Bool:=decide (i<s.length) && (decide (128≤ai s i 0) && decide (ai s i 0≤191))
theorem dH (s:List UInt8) (i k:Nat):ai s i k<256:=by unfold ai;exact UInt8.toNat_lt _
theorem HB {s:List UInt8} {i:Nat} (h:dy (ai s i 0)=0):ah s i=(65533,1):=by
 have h0:=dH s i 0
 unfold dy at h
 repeat' split at h
 all_goals first | omega | skip
 unfold ah
 simp only
 rw [if_neg (by omega)]
 split
 ·rename_i g
  simp only [Bool.and_eq_true,beq_iff_eq,decide_eq_true_eq] at g
  rw [if_neg (by omega)];rfl
 ·split
  ·rename_i g
   simp only [Bool.and_eq_true,beq_iff_eq,decide_eq_true_eq] at g
   omega
  ·split
   ·rename_i g
    simp only [Bool.and_eq_true,beq_iff_eq,decide_eq_true_eq] at g
    rw [if_neg (by simp only [Bool.and_eq_true,decide_eq_true_eq,jx];omega)];rfl
   ·rfl
theorem EU {s:List UInt8} {i:Nat} (h:dy (ai s i 0)=1):ah s i=(ai s i 0,1):=by
 unfold dy at h
 unfold ah
 simp only
 rw [if_pos]
 repeat' split at h
 all_goals omega
theorem B4 {s:List UInt8} {i:Nat} (h:2≤dy (ai s i 0)) (g : ¬ (i+1<s.length∧dV (ai s i 0) (ai s i 1)=true)):ah s i=(65533,1):=by
 have h0:=dH s i 0
 have h1:=dH s i 1
 have h2:=dH s i 2
 have h3:=dH s i 3
 have g' : i+1<s.length→dV (ai s i 0) (ai s i 1)=false:=fun e=>by
  rw [← Bool.not_eq_true];exact fun k=>g ⟨e,k⟩
 unfold dy at h
 unfold ah
 simp only
 unfold dV at g'
 have:194≤ai s i 0∧ai s i 0≤244:=by
  repeat' split at h
  all_goals omega
 clear h
 rw [if_neg (by omega)]
 split
 ·rename_i k
  simp only [Bool.and_eq_true,beq_iff_eq,decide_eq_true_eq] at k
  have e:=g' k.2.1
  rw [if_neg (by omega),if_neg (by omega),if_neg (by omega),if_neg (by omega)] at e
  simp only [Bool.and_eq_false_iff,decide_eq_false_iff_not] at e
  omega
 ·split
  ·rename_i k
   simp only [Bool.and_eq_true,beq_iff_eq,decide_eq_true_eq] at k
   have e:=g' k.1.2.1
   rw [if_neg]
   ·rfl
   simp only [Bool.and_eq_true,decide_eq_true_eq,jx]
   repeat' split at e
   all_goals simp only [Bool.and_eq_false_iff,decide_eq_false_iff_not] at e
   all_goals omega
  ·split
   ·rename_i k
    simp only [Bool.and_eq_true,beq_iff_eq,decide_eq_true_eq] at k
    have e:=g' k.1.1.2.1
    rw [if_neg]
    ·rfl
    simp only [Bool.and_eq_true,decide_eq_true_eq,jx]
    repeat' split at e
    all_goals simp only [Bool.and_eq_false_iff,decide_eq_false_iff_not] at e
    all_goals omega
   ·rfl
theorem dI (s:List UInt8) (i k:Nat):ai s (i+k) 0=ai s i k:=by unfold ai;rw [Nat.add_zero]
theorem HC {s:List UInt8} {i k:Nat} (hk:2≤k) (h:k<dy (ai s i 0)) (g:iw s (i+k)=false):ah s i=(65533,1):=by
 have h0:=dH s i 0
 have hl:=dH s i k
 unfold iw at g
 rw [dI] at g
 simp only [Bool.and_eq_false_iff,decide_eq_false_iff_not] at g
 have hc:(decide (i+k<s.length) && ai s i k / 64 == 2)=false:=by
  simp only [Bool.and_eq_false_iff,decide_eq_false_iff_not,beq_eq_false_iff_ne]
  omega
 unfold dy at h
 have hr:(224≤ai s i 0∧ai s i 0≤239∧k=2)∨(240≤ai s i 0∧ai s i 0≤244∧(k=2∨k=3)):=by
  repeat' split at h
  all_goals omega
 clear h g
 unfold ah
 simp only
 rw [if_neg (by omega)]
 have e6:(ai s i 0 / 32 == 6)=false:=by rw [beq_eq_false_iff_ne];omega
 rw [e6]
 simp only [Bool.false_and,Bool.false_eq_true,if_false]
 rcases hr with ⟨a,b,rfl⟩ | ⟨a,b,rfl | rfl⟩
 ·rw [hc]
  have e8:(ai s i 0 / 8 == 30)=false:=by rw [beq_eq_false_iff_ne];omega
  rw [e8]
  simp only [Bool.and_false,Bool.false_and,Bool.false_eq_true,if_false];rfl
 ·rw [hc]
  simp only [Bool.and_false,Bool.false_and,Bool.false_eq_true,if_false];rfl
 ·have Z7:(ai s i 0 / 16 == 14)=false:=by rw [beq_eq_false_iff_ne];omega
  rw [Z7,hc]
  simp only [Bool.and_false,Bool.false_and,Bool.false_eq_true,if_false];rfl
theorem ET {s:List UInt8} {i:Nat} (h:2≤dy (ai s i 0)) (g1:i+1<s.length) (g2:dV (ai s i 0) (ai s i 1)=true) (g : ∀k,2≤k→k<dy (ai s i 0)→iw s (i+k)=true) :
  ah s i=(if dy (ai s i 0)=2 then (ai s i 1 - 128)+64*(ai s i 0 - 192) else if dy (ai s i 0)=3 then (64*(ai s i 1 - 128)+(ai s i 2 - 128))+4096*(ai s i 0 - 224)
   else (64*(64*(ai s i 1 - 128)+(ai s i 2 - 128))+(ai s i 3 - 128))+262144*(ai s i 0 - 240),dy (ai s i 0))∧128≤ai s i 1∧(ah s i) ≠ (65533,1):=by
 have h0:=dH s i 0
 have h1:=dH s i 1
 have c1:128≤ai s i 1∧ai s i 1≤191∧(ai s i 0=224→160≤ai s i 1)∧(ai s i 0=237→ai s i 1≤159)∧(ai s i 0=240→144≤ai s i 1)∧(ai s i 0=244→ai s i 1≤143):=by
  unfold dV at g2
  repeat' split at g2
  all_goals simp only [Bool.and_eq_true,decide_eq_true_eq] at g2
  all_goals omega
 have gk : ∀k,2≤k→k<dy (ai s i 0)→i+k<s.length∧128≤ai s i k∧ai s i k≤191:=by
  intro k a b
  have:=g k a b
  unfold iw at this
  rw [dI] at this
  simp only [Bool.and_eq_true,decide_eq_true_eq] at this
  exact this
 have d1:(decide (i+1<s.length) && ai s i 1 / 64 == 2)=true:=by
  simp only [Bool.and_eq_true,decide_eq_true_eq,beq_iff_eq];omega
 have hr:(dy (ai s i 0)=2∧194≤ai s i 0∧ai s i 0≤223)∨(dy (ai s i 0)=3∧224≤ai s i 0∧ai s i 0≤239)∨(dy (ai s i 0)=4∧240≤ai s i 0∧ai s i 0≤244):=by
  unfold dy at h ⊢
  repeat' split at h
  all_goals first | omega | skip
  ·rw [if_neg (by assumption),if_pos (by assumption)];omega
  ·rw [if_neg (by assumption),if_neg (by assumption),if_pos (by assumption)];omega
  ·rw [if_neg (by assumption),if_neg (by assumption),if_neg (by assumption),if_pos (by assumption)];omega
 rcases hr with ⟨e,a,b⟩ | ⟨e,a,b⟩ | ⟨e,a,b⟩
 ·rw [e,if_pos rfl]
  unfold ah
  simp only
  have e6:(ai s i 0 / 32 == 6)=true:=by rw [beq_iff_eq];omega
  rw [if_neg (by omega),e6,d1]
  simp only [Bool.and_self,if_true]
  rw [if_pos (by omega)]
  refine ⟨Prod.ext (by simp only;omega) rfl,c1.1,fun k=>?_⟩
  have:=congrArg Prod.snd k
  simp only at this;omega
 ·obtain ⟨p1,p2,p3⟩:=gk 2 (by omega) (by omega)
  have d2:(decide (i+2<s.length) && ai s i 2 / 64 == 2)=true:=by
   simp only [Bool.and_eq_true,decide_eq_true_eq,beq_iff_eq];omega
  rw [e,if_neg (by decide),if_pos rfl]
  unfold ah
  simp only
  have e6:(ai s i 0 / 32 == 6)=false:=by rw [beq_eq_false_iff_ne];omega
  have Va:(ai s i 0 / 16 == 14)=true:=by rw [beq_iff_eq];omega
  rw [if_neg (by omega),e6,Va,d1,d2]
  simp only [Bool.and_self,if_true,Bool.false_and,Bool.false_eq_true,if_false]
  rw [if_pos (by simp only [Bool.and_eq_true,decide_eq_true_eq,jx];omega)]
  refine ⟨Prod.ext (by simp only;omega) rfl,c1.1,fun k=>?_⟩
  have:=congrArg Prod.snd k
  simp only at this;omega
 ·obtain ⟨p1,p2,p3⟩:=gk 2 (by omega) (by omega)
  obtain ⟨q1,q2,q3⟩:=gk 3 (by omega) (by omega)
  have d2:(decide (i+2<s.length) && ai s i 2 / 64 == 2)=true:=by
   simp only [Bool.and_eq_true,decide_eq_true_eq,beq_iff_eq];omega
  have d3:(decide (i+3<s.length) && ai s i 3 / 64 == 2)=true:=by
   simp only [Bool.and_eq_true,decide_eq_true_eq,beq_iff_eq];omega
  rw [e,if_neg (by decide),if_neg (by decide)]
  unfold ah
  simp only
  have e6:(ai s i 0 / 32 == 6)=false:=by rw [beq_eq_false_iff_ne];omega
  have Va:(ai s i 0 / 16 == 14)=false:=by rw [beq_eq_false_iff_ne];omega
  have Z6:(ai s i 0 / 8 == 30)=true:=by rw [beq_iff_eq];omega
  rw [if_neg (by omega),e6,Va,Z6,d1,d2,d3]
  simp only [Bool.and_self,if_true,Bool.false_and,Bool.false_eq_true,if_false]
  rw [if_pos (by simp only [Bool.and_eq_true,decide_eq_true_eq,jx];omega)]
  refine ⟨Prod.ext (by simp only;omega) rfl,c1.1,fun k=>?_⟩
  have:=congrArg Prod.snd k
  simp only at this;omega
end Go.Am
