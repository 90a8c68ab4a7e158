/- Two rows in order behind one another, merged where they lie; rows of any length. -/
import Derived.Test.YtlkdhhkncoekgaaDoorSortB
namespace Go.Proofs.YtlkdhhkncoekgaaDoor
open Go.Am Go
section
variable {L:vm}
theorem wrap_u64 {n:Int} (h:0≤n) (h' : n≤9223372036854775807):IntKind.u64.wrap n=n:=by
 simp only [IntKind.wrap,IntKind.bits,IntKind.signed]
 have:n % (2:Int) ^ 64=n:=Int.emod_eq_of_lt h (by omega)
 simp only [this,Bool.false_and]
 rfl
theorem xS (i j:Nat) (h:i+j≤4000000):IntKind.i64.wrap ((IntKind.u64.wrap (IntKind.i64.wrap ((i:Int)+(j:Int)))).fdiv 2)=(((i+j) / 2:Nat):Int):=by
 rw [wrap_i64 (n:=(i:Int)+(j:Int)) (by omega) (by omega),wrap_u64 (by omega) (by omega),Int.fdiv_eq_ediv_of_nonneg _ (by decide)]
 rw [wrap_i64 (by omega) (by omega)]
 omega
theorem bS {f:Nat→Nat} {a m b x:Nat}:cD f a m b x=if a≤x∧x<a+(b - m) then f (x+(m - a)) else if a+(b - m)≤x∧x<b then f (x - (b - m)) else f x:=rfl
theorem bT.Tn {n a b s m e:Nat} {f:Nat→Nat} (hp:bE n (cD f s m e) f) (h1:a≤s) (h2:s≤m) (h3:m≤e) (h4:e≤b):bT n a b (cD f s m e) f:=by
 refine ⟨hp,fun x hx=>?_,fun x g1 g2=>?_⟩
 ·rw [bS,if_neg (by omega),if_neg (by omega)]
 ·rw [bS]
  by_cases c1:s≤x∧x<s+(e - m)
  ·rw [if_pos c1];exact ⟨x+(m - s),by omega,by omega,rfl⟩
  ·rw [if_neg c1]
   by_cases c2:s+(e - m)≤x∧x<e
   ·rw [if_pos c2];exact ⟨x - (e - m),by omega,by omega,rfl⟩
   ·rw [if_neg c2];exact ⟨x,g1,g2,rfl⟩
theorem lz {f:Nat→Nat} {s m e:Nat} (h:s=m∨m=e) (h2:s≤m) (h3:m≤e):cD f s m e=f:=by
 funext x
 rw [bS]
 by_cases c1:s≤x∧x<s+(e - m)
 ·rw [if_pos c1];congr 1;omega
 ·rw [if_neg c1]
  by_cases c2:s+(e - m)≤x∧x<e
  ·rw [if_pos c2];congr 1;omega
  ·rw [if_neg c2]
theorem C6 {f:Nat→Nat} {a k:Nat} (h:a≤k):mm (cD f a (a+1) (k+1)) k (k+1)=cD f a (a+1) (k+2):=by
 funext x
 unfold mm
 by_cases h1:x=k
 ·subst h1
  rw [if_pos rfl,bS,bS,if_neg (by omega),if_neg (by omega),if_pos (by omega)]
  congr 1;omega
 ·rw [if_neg h1]
  by_cases h2:x=k+1
  ·subst h2
   rw [if_pos rfl,bS,bS,if_neg (by omega),if_pos (by omega),if_neg (by omega),if_pos (by omega)]
   congr 1;omega
  ·rw [if_neg h2,bS,bS]
   by_cases c1:a≤x∧x<a+(k+1 - (a+1))
   ·rw [if_pos c1,if_pos (by omega)]
   ·rw [if_neg c1,if_neg (by omega),if_neg (by omega),if_neg (by omega)]
theorem wB {f:Nat→Nat} {m k:Nat} (h:k≤m) (h0:0<k):mm (cD f k m (m+1)) k (k - 1)=cD f (k - 1) m (m+1):=by
 funext x
 unfold mm
 by_cases h1:x=k
 ·subst h1
  rw [if_pos rfl,bS,bS,if_neg (by omega),if_neg (by omega),if_neg (by omega),if_pos (by omega)]
  congr 1;omega
 ·rw [if_neg h1]
  by_cases h2:x=k - 1
  ·subst h2
   rw [if_pos rfl,bS,bS,if_pos (by omega),if_pos (by omega)]
   congr 1;omega
  ·rw [if_neg h2,bS,bS,if_neg (c:=k≤x∧x<k+(m+1 - m)) (by omega),if_neg (c:=k - 1≤x∧x<k - 1+(m+1 - m)) (by omega)]
   by_cases c1:k+(m+1 - m)≤x∧x<m+1
   ·rw [if_pos c1,if_pos (by omega)]
   ·rw [if_neg c1,if_neg (by omega)]
theorem JL {f:Nat→Nat} {a b i:Nat} (h:jv L.toOrdr f (a+1) b) (hi:a+1≤i) (QN:i≤b) (h1:i=a+1∨L.lt (f (i - 1)) (f a)=true) (h2:i=b∨L.lt (f i) (f a)=false):jv L.toOrdr (cD f a (a+1) i) a b:=by
 have lo : ∀x,a+1≤x→x<i→L.lt (f a) (f x)=false:=by
  intro x x1 x2
  rcases h1 with h1 | h1
  ·omega
  ·exact Ordr.lt_trans (Ordr.Du h1) (h.le x1 (by omega) (by omega))
 have v8 : ∀x,i≤x→x<b→L.lt (f x) (f a)=false:=by
  intro x x1 x2
  rcases h2 with h2 | h2
  ·omega
  ·exact Ordr.lt_trans (h.le hi x1 x2) h2
 intro p q p1 p2 p3
 rw [bS,bS]
 by_cases c1:a≤q∧q<a+(i - (a+1))
 ·rw [if_pos c1,if_pos (by omega)]
  exact h (p+(a+1 - a)) (q+(a+1 - a)) (by omega) (by omega) (by omega)
 ·rw [if_neg c1]
  by_cases c2:a+(i - (a+1))≤q∧q<i
  ·rw [if_pos c2,if_pos (by omega)]
   rw [show q - (i - (a+1))=a by omega]
   exact lo _ (by omega) (by omega)
  ·rw [if_neg c2]
   by_cases d1:a≤p∧p<a+(i - (a+1))
   ·rw [if_pos d1];exact h _ _ (by omega) (by omega) p3
   ·rw [if_neg d1]
    by_cases d2:a+(i - (a+1))≤p∧p<i
    ·rw [if_pos d2,show p - (i - (a+1))=a by omega];exact v8 q (by omega) p3
    ·rw [if_neg d2];exact h p q (by omega) p2 p3
theorem FF {f:Nat→Nat} {a m i:Nat} (h:jv L.toOrdr f a m) (hi:a≤i) (UC:i≤m) (h1:i=a∨L.lt (f m) (f (i - 1))=false) (h2:i=m∨L.lt (f m) (f i)=true):jv L.toOrdr (cD f i m (m+1)) a (m+1):=by
 have lo : ∀x,a≤x→x<i→L.lt (f m) (f x)=false:=by
  intro x x1 x2
  rcases h1 with h1 | h1
  ·omega
  ·exact Ordr.lt_trans h1 (h.le x1 (by omega) (by omega))
 have v8 : ∀x,i≤x→x<m→L.lt (f x) (f m)=false:=by
  intro x x1 x2
  rcases h2 with h2 | h2
  ·omega
  ·exact Ordr.lt_trans (h.le hi x1 x2) (Ordr.Du h2)
 intro p q p1 p2 p3
 rw [bS,bS]
 by_cases c1:i≤q∧q<i+(m+1 - m)
 ·rw [if_pos c1,if_neg (by omega),if_neg (by omega),show q+(m - i)=m by omega]
  exact lo p p1 (by omega)
 ·rw [if_neg c1]
  by_cases c2:i+(m+1 - m)≤q∧q<m+1
  ·rw [if_pos c2]
   by_cases d1:i≤p∧p<i+(m+1 - m)
   ·rw [if_pos d1,show p+(m - i)=m by omega];exact v8 _ (by omega) (by omega)
   ·rw [if_neg d1]
    by_cases d2:i+(m+1 - m)≤p∧p<m+1
    ·rw [if_pos d2];exact h _ _ (by omega) (by omega) (by omega)
    ·rw [if_neg d2];exact h _ _ p1 (by omega) (by omega)
  ·rw [if_neg c2,if_neg (by omega),if_neg (by omega)];exact h p q p1 p2 (by omega)
theorem Na {f:Nat→Nat} {a m b s e:Nat} (h1:jv L.toOrdr f a m) (h2:jv L.toOrdr f m b) (hs:a≤s∧s≤m) (he:m≤e∧e≤b) (p1:s=a∨e=b∨L.lt (f e) (f (s - 1))=false) (p2:s=m∨e=m∨L.lt (f (e - 1)) (f s)=true) :
  jv L.toOrdr (cD f s m e) a s∧jv L.toOrdr (cD f s m e) s (s+(e - m))∧jv L.toOrdr (cD f s m e) (s+(e - m)) e∧jv L.toOrdr (cD f s m e) e b ∧
  ∀x y,a≤x→x<s+(e - m)→s+(e - m)≤y→y<b→L.lt (cD f s m e y) (cD f s m e x)=false:=by
 have r1 : ∀x,a≤x→x<s→cD f s m e x=f x:=fun x _ g=>by rw [bS,if_neg (by omega),if_neg (by omega)]
 have r2 : ∀x,s≤x→x<s+(e - m)→cD f s m e x=f (x+(m - s)):=fun x g g'=>by rw [bS,if_pos ⟨g,g'⟩]
 have r3 : ∀x,s+(e - m)≤x→x<e→cD f s m e x=f (x - (e - m)):=fun x g g'=>by rw [bS,if_neg (by omega),if_pos ⟨g,g'⟩]
 have r4 : ∀x,e≤x→cD f s m e x=f x:=fun x g=>by rw [bS,if_neg (by omega),if_neg (by omega)]
 refine ⟨fun p q g1 g2 g3=>?_,fun p q g1 g2 g3=>?_,fun p q g1 g2 g3=>?_,fun p q g1 g2 g3=>?_,fun x y x1 x2 y1 y2=>?_⟩
 ·rw [r1 p g1 (by omega),r1 q (by omega) g3];exact h1 p q g1 g2 (by omega)
 ·rw [r2 p g1 (by omega),r2 q (by omega) g3];exact h2 _ _ (by omega) (by omega) (by omega)
 ·rw [r3 p g1 (by omega),r3 q (by omega) g3];exact h1 _ _ (by omega) (by omega) (by omega)
 ·rw [r4 p g1,r4 q (by omega)];exact h2 p q (by omega) g2 g3
 ·rcases Nat.lt_or_ge x s with cx | cx
  ·rw [r1 x x1 cx]
   rcases Nat.lt_or_ge y e with cy | cy
   ·rw [r3 y y1 cy];exact h1 _ _ x1 (by omega) (by omega)
   ·rw [r4 y cy]
    rcases p1 with p1 | p1 | p1
    ·omega
    ·omega
    ·exact Ordr.lt_trans (Ordr.lt_trans (h2.le (by omega) cy y2) p1) (h1.le x1 (by omega) (by omega))
  ·rw [r2 x cx x2]
   rcases Nat.lt_or_ge y e with cy | cy
   ·rw [r3 y y1 cy]
    rcases p2 with p2 | p2 | p2
    ·omega
    ·omega
    ·exact Ordr.lt_trans (Ordr.lt_trans (h1.le (by omega) (by omega) (by omega):L.lt (f (y - (e - m))) (f s)=false) (Ordr.Du p2)) (h2.le (by omega) (by omega) (by omega))
   ·rw [r4 y cy];exact h2 _ _ (by omega) (by omega) y2
theorem LM {f:Nat→Nat} {a m b s e:Nat} (h:LQ f a m b) (hs:a≤s∧s≤m) (he:m≤e∧e≤b):LQ (cD f s m e) a s (s+(e - m))∧LQ (cD f s m e) (s+(e - m)) e b:=by
 refine ⟨fun x y x1 x2 y1 y2=>?_,fun x y x1 x2 y1 y2=>?_⟩
 ·rw [bS,bS,if_neg (by omega),if_neg (by omega),if_pos ⟨y1,y2⟩]
  exact h _ _ x1 (by omega) (by omega) (by omega)
 ·rw [bS,bS,if_neg (by omega),if_pos ⟨x1,x2⟩,if_neg (by omega),if_neg (by omega)]
  exact h _ _ (by omega) (by omega) (by omega) (by omega)
theorem LQ.congr {f g:Nat→Nat} {a m b:Nat} (h:LQ f a m b) (e : ∀i,a≤i→i<b→g i=f i) (hm:a≤m∧m≤b):LQ g a m b:=fun x y x1 x2 y1 y2=>by
 rw [e x x1 (by omega),e y (by omega) y2];exact h x y x1 x2 y1 y2
theorem merged {n a d b:Nat} {g0 g1 g2:Nat→Nat} (r1:bT n a d g1 g0) (r2:bT n d b g2 g1) (s1:jv L.toOrdr g1 a d) (s2:jv L.toOrdr g2 d b) (_:a≤d∧d≤b) (hx : ∀x y,a≤x→x<d→d≤y→y<b→L.lt (g0 y) (g0 x)=false):jv L.toOrdr g2 a b:=by
 intro p q h1 h2 h3
 rcases Nat.lt_or_ge q d with c | c
 ·rw [r2.out p (.inl (by omega)),r2.out q (.inl c)];exact s1 p q h1 h2 c
 ·rcases Nat.lt_or_ge p d with c' | c'
  ·rw [r2.out p (.inl c')]
   obtain ⟨x,x1,x2,ex⟩:=r1.kY p h1 c'
   obtain ⟨y,y1,y2,ey⟩:=r2.kY q c h3
   rw [ex,ey,r1.out y (.inr y1)]
   exact hx x y x1 x2 y1 y2
  ·exact s2 p q c' h2 h3
end
end Go.Proofs.YtlkdhhkncoekgaaDoor
