/-
  Laws and walks of chapter 9 that stand beside those of the earlier texts.
-/
import Derived.Test.YtjbggogbnckllaaDoorBsT
import Derived.RangeFuncNested
import Derived.RangeFuncBound
import Derived.RangeFuncCalls
import Derived.RangeFuncLeaves
import Derived.RangeFuncBox
import Derived.Shelf.Abstract
import Derived.Shelf.RegionOpen
import Derived.OwnWalkIn
import Derived.TacticsInMore
import Derived.LoopNIn
import Derived.LoopIn
import Derived.Maps.AppendAt
import Derived.Test.YtjbggogbnckllaaDoorAi
import Derived.Test.YtjbggogbnckllaaDoorAb
import Derived.Test.YtjbggogbnckllaaDoorPl
import Derived.Test.YtjbggogbnckllaaDoorAa
import Derived.Test.YtjbggogbnckllaaDoorSmD
import Derived.Test.YtjbggogbnckllaaDoorAl
import Derived.Test.YtjbggogbnckllaaDoorAk
import Derived.Test.YtjbggogbnckllaaDoorAj
import Derived.Test.YtjbggogbnckllaaDoorBa
section
set_option maxRecDepth 100000
namespace Go.Proofs.YtjbggogbnckllaaDoor
open Go.RowKit
set_option linter.unusedVariables false
theorem Wd.ints {B:Nat} {w:World} {a:Option Addr} {l:List Int} (hB:w.heap.size≤B) (h:Ints w a l) (z:Wd B w):Ints z.w a l:=h.below (z.ok.mono hB)
end Go.Proofs.YtjbggogbnckllaaDoor
end
section
set_option maxRecDepth 100000
namespace Go.Proofs.YtjbggogbnckllaaDoor
open Go.RowKit
set_option linter.unusedVariables false
set_option linter.unusedSimpArgs false
section
variable {w w':World} {B:Nat} {no:List Nat} {l l1 l2:List Rw} {r r':Rw}
end
theorem intV_one (l:List Int):∀ u ∈ intV l,u.oneCell'=true:=by
 intro u hu; obtain ⟨y,_,rfl⟩:=List.mem_map.1 hu; rfl
end Go.Proofs.YtjbggogbnckllaaDoor
end
section
set_option maxRecDepth 100000
namespace Go.Proofs.YtjbggogbnckllaaDoor
namespace Q
open Pl (Plan Prod)
theorem add_of {a b:Int} (ha:0≤a) (hb:0≤b):add a b=min (a+b) M:=by unfold add held M; omega
end Q
end Go.Proofs.YtjbggogbnckllaaDoor
end
section
set_option maxRecDepth 100000
namespace Go.Proofs.YtjbggogbnckllaaDoor
namespace Q
open Pl (Plan Prod)
theorem lenStep_no {i:Nat} {r:Prod} {s:Ls} {ch:Bool} (h:sumF s.long r.right 0 < 0∨0≤s.long r.left∧s.long r.left≤sumF s.long r.right 0):lenStep i r s ch=(s,ch):=by
 unfold lenStep; rw [if_neg (by omega)]
theorem round_same {p:Plan} (h:OK p) (s:Ls) (hc:(round p s).2=false):(round p s).1=s:=by
 rcases lenGo_less (cnt p) p.rules 0 s false (left_lt h) with ⟨e,_⟩ | ⟨e,_⟩
 ·exact e
 ·unfold round at hc; rw [e] at hc; cases hc
theorem lens_eq (p:Plan):lens p=(run (round p) (lenF p) (len0 p)).1:=rfl
end Q
end Go.Proofs.YtjbggogbnckllaaDoor
end
section
set_option maxRecDepth 100000
namespace Go.Proofs.YtjbggogbnckllaaDoor
namespace Q
open Pl (Plan Prod)
theorem lenGo_true:∀ (rs:List Prod) (i:Nat) (s:Ls),(lenGo i rs s true).2=true
 | [],_,_=>rfl
 | r::rs,i,s=>by
  rw [lenGo]
  have:(lenStep i r s true).2=true:=by unfold lenStep; split<;>rfl
  rw [this]
  exact lenGo_true rs _ _
theorem lenGo_idle:∀ (rs:List Prod) (i:Nat) (s:Ls),(lenGo i rs s false).2=false→∀ r ∈ rs,Idle s r
 | [],_,_,_=>fun r hr=>nomatch hr
 | r::rs,i,s,h=>by
  rw [lenGo] at h
  by_cases hc:0≤sumF s.long r.right 0∧(s.long r.left < 0∨sumF s.long r.right 0 < s.long r.left)
  ·rw [lenStep_yes hc.1 hc.2] at h
   rw [lenGo_true] at h
   cases h
  ·have hi:Idle s r:=by unfold Idle; omega
   rw [lenStep_no hi] at h
   intro x hx
   rcases List.mem_cons.1 hx with rfl | hx
   ·exact hi
   ·exact lenGo_idle rs _ s h x hx
theorem lenGo_inv (I:Ls→Prop):∀ (rs:List Prod) (i:Nat) (s:Ls) (ch:Bool),(∀ r ∈ rs,∀ i s,I s→0≤sumF s.long r.right 0→(s.long r.left < 0∨sumF s.long r.right 0 < s.long r.left)→I ⟨up s.long r.left (sumF s.long r.right 0),up s.by_ r.left (i:Int)⟩)→I s→I (lenGo i rs s ch).1
 | [],_,_,_,_,h=>h
 | r::rs,i,s,ch,hI,h=>by
  rw [lenGo]
  refine lenGo_inv I rs _ _ _ (fun x hx=>hI x (by simp [hx])) ?_
  by_cases hc:0≤sumF s.long r.right 0∧(s.long r.left < 0∨sumF s.long r.right 0 < s.long r.left)
  ·rw [lenStep_yes hc.1 hc.2]
   exact hI r (by simp) _ s h hc.1 hc.2
  ·rw [lenStep_no (by omega)]
   exact h
/-- The lengths' invariants; the last round changes nothing. -/
theorem lens_inv {p:Plan} (I:Ls→Prop) (h0:I (len0 p)) (hI:∀ r ∈ p.rules,∀ i s,I s→0≤sumF s.long r.right 0→(s.long r.left < 0∨sumF s.long r.right 0 < s.long r.left)→I ⟨up s.long r.left (sumF s.long r.right 0),up s.by_ r.left (i:Int)⟩):I (lens p):=by
 rw [lens_eq]
 exact run_inv I (fun s hs=>lenGo_inv I p.rules 0 s false hI hs) _ _ h0
theorem lens_last {p:Plan} (h:OK p):(round p (lens p)).2=false:=by
 rw [lens_eq]
 exact (run_last (step:=round p) (fun _=>True) (fun s=>weight (cnt p) s.long) (fun _ _=>trivial) (fun s _ hc=>round_less h s hc) (fun s hc=>round_same h s hc) (lenF p) (len0 p) trivial (Nat.lt_succ_self _)).1
theorem lens_idle {p:Plan} (h:OK p):∀ r ∈ p.rules,Idle (lens p) r:=lenGo_idle p.rules 0 (lens p) (lens_last h)
theorem sumF_all {long:Nat→Int}:∀ (r:List Int) (n:Int),0≤sumF long r n→∀ x ∈ r,0≤long x.toNat
 | [],_,_=>fun x hx=>nomatch hx
 | y::r,n,h=>by
  rw [sumF] at h
  split at h
  ·omega
  ·rename_i hy
   intro x hx
   rcases List.mem_cons.1 hx with rfl | hx
   ·omega
   ·exact sumF_all r _ h x hx
theorem sumF_ge {long:Nat→Int}:∀ (r:List Int) (n:Int),0≤n→(∀ x ∈ r,0≤long x.toNat)→0≤sumF long r n
 | [],n,h,_=>h
 | y::r,n,h,ha=>by
  rw [sumF,if_neg (by have:=ha y (by simp); omega)]
  exact sumF_ge r _ (add_range _ _).1 (fun x hx=>ha x (by simp [hx]))
/-- A length is there exactly where there is a derivation. -/
theorem lens_der {p:Plan} (h:OK p) (i:Nat):0≤(lens p).long i↔Der p i:=by
 have h1:∀ i,0≤(lens p).long i→Der p i:=by
  refine lens_inv (fun s=>∀ i,0≤s.long i→Der p i) ?_ ?_
  ·intro i hi
   unfold len0 at hi
   simp only at hi
   split at hi
   ·exact Der.term i ‹_›
   ·omega
  ·intro r hr _ s hs h0 _ i hi
   simp only [up] at hi
   split at hi
   ·rename_i e
    rw [e]
    exact Der.rule r hr (fun x hx=>hs _ (sumF_all _ _ h0 x hx))
   ·exact hs i hi
 have h2:∀ i,i < p.terms.length→0≤(lens p).long i:=by
  refine lens_inv (fun s=>∀ i,i < p.terms.length→0≤s.long i) ?_ ?_
  ·intro i hi
   unfold len0
   simp only
   rw [if_pos hi]; omega
  ·intro r hr _ s hs h0 _ i hi
   simp only [up]
   split
   ·exact h0
   ·exact hs i hi
 refine ⟨h1 i,fun hd=>?_⟩
 induction hd with
 | term i hi=>exact h2 i hi
 | rule r hr _ ih =>
  have h3:=sumF_ge r.right 0 (by omega) ih
  rcases lens_idle h r hr with h4 | h4
  ·omega
  ·exact h4.1
end Q
end Go.Proofs.YtjbggogbnckllaaDoor
end
section
set_option maxRecDepth 100000
namespace Go.Proofs.YtjbggogbnckllaaDoor
namespace Q
open Pl (Plan Prod)
theorem mkH_lt {p:Plan} (h:OK p):∀ c ∈ mkH p,c.2 < cnt p:=by
 intro c hc
 obtain ⟨r,hr,rfl⟩:=List.mem_map.1 hc
 exact left_lt h r hr
theorem makes_der {p:Plan} (h:OK p) (i:Nat):makes p i=true↔Der p i:=by
 unfold makes
 rw [hRun_iff (mkH_lt h)]
 constructor
 ·intro hd
  induction hd with
  | base i hi=>exact Der.term i (by simpa [mk0] using hi)
  | step c hc _ ih =>
   obtain ⟨r,hr,rfl⟩:=List.mem_map.1 hc
   exact Der.rule r hr (fun x hx=>ih _ (List.mem_map.2 ⟨x,hx,rfl⟩))
 ·intro hd
  induction hd with
  | term i hi=>exact HDer.base i (by simpa [mk0] using hi)
  | rule r hr _ ih =>
   refine HDer.step (r.right.map Int.toNat,r.left) (List.mem_map.2 ⟨r,hr,rfl⟩) ?_
   intro y hy
   obtain ⟨x,hx,rfl⟩:=List.mem_map.1 hy
   exact ih x hx
/-- The two chapters agree on which symbols make a sentence. -/
theorem makes_lens {p:Plan} (h:OK p) (i:Nat):makes p i=decide (0≤(lens p).long i):=by
 rw [Bool.eq_iff_iff,makes_der h,decide_eq_true_eq,lens_der h]
end Q
end Go.Proofs.YtjbggogbnckllaaDoor
end
section
set_option maxRecDepth 100000
namespace Go.Proofs.YtjbggogbnckllaaDoor
namespace Q
open Pl (Plan Prod)
theorem add_mono {a b c d:Int} (h:a≤b) (h':c≤d):add a c≤add b d:=by unfold add held M; omega
theorem sumF_mono {f g:Nat→Int} (φ:Nat→Nat):∀ (r r':List Int) (n n':Int),r'.map Int.toNat=(r.map Int.toNat).map φ→(∀ x ∈ r,0≤f x.toNat→0≤g (φ x.toNat)∧g (φ x.toNat)≤f x.toNat)→0≤n'→n'≤n→0≤sumF f r n→0≤sumF g r' n'∧sumF g r' n'≤sumF f r n
 | [],[],n,n',_,_,h0,h1,_=>⟨h0,h1⟩
 | [],_::_,_,_,h,_,_,_,_=>by simp at h
 | _::_,[],_,_,h,_,_,_,_=>by simp at h
 | x::r,y::r',n,n',h,hx,h0,h1,h2=>by
  simp only [List.map_cons,List.cons.injEq] at h
  obtain ⟨e,h⟩:=h
  rw [sumF] at h2
  split at h2
  ·omega
  ·rename_i hn
   obtain ⟨b1,b2⟩:=hx x (by simp) (by omega)
   rw [sumF,sumF,if_neg hn,e,if_neg (by omega)]
   exact sumF_mono φ r r' _ _ h (fun z hz=>hx z (by simp [hz])) (add_range _ _).1 (add_mono h1 b2) h2
/-- A terminal's length is one. -/
theorem lens_term {p:Plan} (h:OK p):∀ i,i < p.terms.length→(lens p).long i=1:=by
 refine lens_inv (fun s=>∀ i,i < p.terms.length→s.long i=1) ?_ ?_
 ·intro i hi
  unfold len0
  simp only
  rw [if_pos hi]
 ·intro r hr _ s hs _ _ i hi
  have:=(h.left r hr).1
  simp only [up]
  rw [if_neg (by omega)]
  exact hs i hi
end Q
end Go.Proofs.YtjbggogbnckllaaDoor
end
section
set_option maxRecDepth 100000
namespace Go.Proofs.YtjbggogbnckllaaDoor
namespace Q
open Pl (Plan Prod)
/-- A sum that does not stop is the sum. -/
theorem sumF_exact {f:Nat→Int}:∀ (r:List Int) (n:Int),0≤n→0≤sumF f r n→sumF f r n < M→sumF f r n=n+(r.map fun x=>f x.toNat).sum
 | [],n,_,_,_=>by simp [sumF]
 | x::r,n,h,h0,h1=>by
  rw [sumF] at h0 h1 ⊢
  split at h0
  ·omega
  ·rename_i hx
   rw [if_neg hx] at h1 ⊢
   have hr:=add_range n (f x.toNat)
   have ih:=sumF_exact r _ hr.1 h0 h1
   have hge:add n (f x.toNat)≤sumF f r (add n (f x.toNat)):=by
    have hs:∀ (r:List Int) (m:Int),0≤m→m≤M→0≤sumF f r m→m≤sumF f r m:=by
     intro r
     induction r with
     | nil=>intro m _ _ _; exact Int.le_refl _
     | cons y r ihr =>
      intro m hm hM hs
      rw [sumF] at hs ⊢
      split at hs
      ·omega
      ·rename_i hy
       rw [if_neg hy]
       have h2:=add_of hm (b:=f y.toNat) (by omega)
       have h3:=add_range m (f y.toNat)
       have:=ihr _ h3.1 h3.2 hs
       omega
    exact hs r _ hr.1 hr.2 h0
   rw [ih,List.map_cons,List.sum_cons]
   have h2:=add_of h (b:=f x.toNat) (by omega)
   omega
theorem sum_lt {f g:Nat→Int}:∀ (r:List Int),(∀ x ∈ r,g x.toNat≤f x.toNat)→(r.map fun x=>g x.toNat).sum≤(r.map fun x=>f x.toNat).sum∧((∃ x ∈ r,g x.toNat < f x.toNat)→(r.map fun x=>g x.toNat).sum < (r.map fun x=>f x.toNat).sum)
 | [],_=>⟨Int.le_refl _,fun ⟨x,hx,_⟩=>nomatch hx⟩
 | y::r,h=>by
  obtain ⟨h1,h2⟩:=sum_lt r (fun x hx=>h x (by simp [hx]))
  have h3:=h y (by simp)
  simp only [List.map_cons,List.sum_cons]
  refine ⟨by omega,fun ⟨x,hx,hl⟩=>?_⟩
  rcases List.mem_cons.1 hx with rfl | hx
  ·omega
  ·have:=h2 ⟨x,hx,hl⟩; omega
theorem sum_ge {f:Nat→Int}:∀ (l:List Int),(∀ x ∈ l,0≤f x.toNat)→0≤(l.map fun x=>f x.toNat).sum∧∀ x ∈ l,f x.toNat≤(l.map fun x=>f x.toNat).sum
 | [],_=>⟨Int.le_refl _,fun x hx=>nomatch hx⟩
 | y::l,hl=>by
  obtain ⟨i1,i2⟩:=sum_ge l (fun x hx=>hl x (by simp [hx]))
  have hy:=hl y (by simp)
  simp only [List.map_cons,List.sum_cons]
  refine ⟨by omega,fun x hx=>?_⟩
  rcases List.mem_cons.1 hx with rfl | hx
  ·omega
  ·have:=i2 x hx; omega
theorem lenGo_invI (I:Ls→Prop):∀ (rs:List Prod) (i:Nat) (s:Ls) (ch:Bool),(∀ (k:Nat) (r:Prod),rs[k]?=some r→∀ s,I s→0≤sumF s.long r.right 0→(s.long r.left < 0∨sumF s.long r.right 0 < s.long r.left)→I ⟨up s.long r.left (sumF s.long r.right 0),up s.by_ r.left ((i+k:Nat):Int)⟩)→I s→I (lenGo i rs s ch).1
 | [],_,_,_,_,h=>h
 | r::rs,i,s,ch,hI,h=>by
  rw [lenGo]
  refine lenGo_invI I rs _ _ _ (fun k x hx s hs h1 h2=>?_) ?_
  ·have:=hI (k+1) x (by simpa using hx) s hs h1 h2
   rw [show i+1+k=i+(k+1) by omega]
   exact this
  ·by_cases hc:0≤sumF s.long r.right 0∧(s.long r.left < 0∨sumF s.long r.right 0 < s.long r.left)
   ·rw [lenStep_yes hc.1 hc.2]
    exact hI 0 r (by simp) s h hc.1 hc.2
   ·rw [lenStep_no (by omega)]
    exact h
theorem lens_invI {p:Plan} (I:Ls→Prop) (h0:I (len0 p)) (hI:∀ (k:Nat) (r:Prod),p.rules[k]?=some r→∀ s,I s→0≤sumF s.long r.right 0→(s.long r.left < 0∨sumF s.long r.right 0 < s.long r.left)→I ⟨up s.long r.left (sumF s.long r.right 0),up s.by_ r.left (k:Int)⟩):I (lens p):=by
 rw [lens_eq]
 refine run_inv I (fun s hs=>lenGo_invI I p.rules 0 s false (fun k r hk s hs h1 h2=>?_) hs) _ _ h0
 rw [Nat.zero_add]
 exact hI k r hk s hs h1 h2
theorem byI_of {p:Plan} (h:OK p):∃ tm now,ByI p tm now (lens p):=by
 refine lens_invI (fun s=>∃ tm now,ByI p tm now s) ?_ ?_
 ·refine ⟨fun _=>0,0,by omega,fun _=>Nat.le_refl _,?_,?_,fun _ _=>rfl⟩
  ·intro i; unfold len0 M; simp only; split<;>omega
  ·intro i hi h0
   unfold len0 at h0
   simp only at h0
   rw [if_neg (by omega)] at h0
   omega
 ·rintro k r hk s ⟨tm,now,B⟩ h1 h2
  have hmem:r ∈ p.rules:=List.mem_of_getElem? hk
  have hlt:=h.left r hmem
  have hup:∀ i,0≤s.long i→0≤up s.long r.left (sumF s.long r.right 0) i∧up s.long r.left (sumF s.long r.right 0) i≤s.long i:=by
   intro i hi
   by_cases e:i=r.left
   ·subst e; rw [up_same]; omega
   ·rw [up_ne _ _ e]; omega
  refine ⟨up tm r.left (now+1),now+1,?_,?_,?_,?_,?_⟩
  ·have h3:=weight_up (cnt p) s.long r.left (sumF s.long r.right 0) (left_lt h r hmem)
   have h4:=sumF_le s.long r.right 0 (by unfold M; omega)
   have h5:wt (sumF s.long r.right 0) < wt (s.long r.left):=by
    unfold wt M at *
    rw [if_neg (by omega)]
    split<;>omega
   have h6:=B.bound
   show now+1+weight (cnt p) (up s.long r.left (sumF s.long r.right 0))≤_
   omega
  ·intro i
   have:=B.le i
   unfold up
   split<;>omega
  ·intro i
   show up s.long r.left (sumF s.long r.right 0) i≤M
   unfold up
   split
   ·exact sumF_le s.long r.right 0 (by unfold M; omega)
   ·exact B.le0 i
  ·intro i hi h0
   by_cases e:i=r.left
   ·subst e
    refine ⟨k,r,up_same _ _ _,hk,rfl,?_⟩
    have hm:=sumF_mono (f:=s.long) (g:=up s.long r.left (sumF s.long r.right 0)) id r.right r.right 0 0 (by simp) (fun x _ hf=>hup _ hf) (Int.le_refl _) (Int.le_refl _) h1
    show 0≤sumF (up s.long r.left (sumF s.long r.right 0)) r.right 0∧sumF (up s.long r.left (sumF s.long r.right 0)) r.right 0≤up s.long r.left (sumF s.long r.right 0) r.left∧_
    rw [up_same]
    refine ⟨hm.1,hm.2,fun _ hM x hx=>?_⟩
    have hM:sumF s.long r.right 0 < M:=by
     have:(up s.long r.left (sumF s.long r.right 0)) r.left < M:=hM
     rwa [up_same] at this
    have hne:x.toNat≠r.left:=by
     intro e
     have hall:=sumF_all r.right 0 h1
     have hex:=sumF_exact r.right 0 (Int.le_refl _) h1 hM
     have hge:=(sum_ge r.right hall).2 x hx
     have hh:=hall x hx
     rw [e] at hge hh
     omega
    rw [up_same,up_ne _ _ hne]
    have:=B.le x.toNat
    omega
   ·have hl:up s.long r.left (sumF s.long r.right 0) i=s.long i:=up_ne _ _ e
    have h0':0≤s.long i:=by rw [← hl]; exact h0
    obtain ⟨k',r',b1,b2,b3,b4,b5,b6⟩:=B.rl i hi h0'
    have hm:=sumF_mono (f:=s.long) (g:=up s.long r.left (sumF s.long r.right 0)) id r'.right r'.right 0 0 (by simp) (fun x _ hf=>hup _ hf) (Int.le_refl _) (Int.le_refl _) b4
    refine ⟨k',r',(up_ne _ _ e).trans b1,b2,b3,?_⟩
    show 0≤sumF (up s.long r.left (sumF s.long r.right 0)) r'.right 0∧sumF (up s.long r.left (sumF s.long r.right 0)) r'.right 0≤up s.long r.left (sumF s.long r.right 0) i∧(sumF (up s.long r.left (sumF s.long r.right 0)) r'.right 0=up s.long r.left (sumF s.long r.right 0) i→up s.long r.left (sumF s.long r.right 0) i < M→_)
    rw [hl]
    refine ⟨hm.1,by omega,fun he hM x hx=>?_⟩
    have he2:sumF s.long r'.right 0=s.long i:=by omega
    have hb:=b6 he2 hM
    have hne:x.toNat≠r.left:=by
     intro ex
     have hall:=sumF_all r'.right 0 b4
     have e1:=sumF_exact r'.right 0 (Int.le_refl _) b4 (by omega)
     have e2:=sumF_exact r'.right 0 (Int.le_refl _) hm.1 (by omega)
     have hx0:=hall x hx
     have:=(sum_lt (f:=s.long) (g:=up s.long r.left (sumF s.long r.right 0)) r'.right (fun x hx=>(hup _ (hall x hx)).2)).2 ⟨x,hx,by rw [ex,up_same]; rw [ex] at hx0; omega⟩
     omega
    rw [up_ne _ _ hne,up_ne _ _ e]
    exact hb x hx
  ·intro i hi
   rw [up_ne _ _ (by omega)]
   exact B.tt i hi
theorem lens_by {p:Plan} (h:OK p):∃ tm:Nat→Nat,(∀ i,tm i < lenF p)∧∀ i,p.terms.length≤i→0≤(lens p).long i→(lens p).long i < M→∃ (k:Nat) (r:Prod),(lens p).by_ i=(k:Int)∧p.rules[k]?=some r∧r.left=i∧(∀ x ∈ r.right,0≤(lens p).long x.toNat∧(lens p).long x.toNat≤(lens p).long i∧tm x.toNat < tm i)∧(lens p).long i=(r.right.map fun x=>(lens p).long x.toNat).sum:=by
 obtain ⟨tm,now,B⟩:=byI_of h
 refine ⟨tm,fun i=>?_,fun i hi h0 hM=>?_⟩
 ·have h1:=B.le i
  have h2:=B.bound
  unfold lenF
  omega
 ·obtain ⟨k,r,b1,b2,b3,b4,b5,b6⟩:=B.rl i hi h0
  have hid:=lens_idle h r (List.mem_of_getElem? b2)
  unfold Idle at hid
  rw [b3] at hid
  have he:sumF (lens p).long r.right 0=(lens p).long i:=by
   rcases hid with h4 | h4
   ·omega
   ·omega
  have hex:=sumF_exact r.right 0 (Int.le_refl _) b4 (by omega)
  have hall:=sumF_all r.right 0 b4
  refine ⟨k,r,b1,b2,b3,fun x hx=>⟨hall x hx,?_,b6 he hM x hx⟩,by omega⟩
  have:=(sum_ge r.right hall).2 x hx
  omega
/-- How long it is, and of what. -/
theorem sentF_len {p:Plan} (h:OK p) {tm:Nat→Nat} (T:∀ i,p.terms.length≤i→0≤(lens p).long i→(lens p).long i < M→∃ (k:Nat) (r:Prod),(lens p).by_ i=(k:Int)∧p.rules[k]?=some r∧r.left=i∧(∀ x ∈ r.right,0≤(lens p).long x.toNat∧(lens p).long x.toNat≤(lens p).long i∧tm x.toNat < tm i)∧(lens p).long i=(r.right.map fun x=>(lens p).long x.toNat).sum) :
  ∀ (f i:Nat),tm i < f→0≤(lens p).long i→(lens p).long i < M→((sentF p f i).length:Int)=(lens p).long i∧∀ x ∈ sentF p f i,0≤x∧x < (p.terms.length:Int)
 | 0,_,h,_,_=>absurd h (Nat.not_lt_zero _)
 | f+1,i,hf,h0,hM=>by
  rw [sentF]
  by_cases hz:(lens p).long i=0
  ·rw [if_pos hz,hz]; exact ⟨rfl,fun x hx=>nomatch hx⟩
  ·rw [if_neg hz]
   by_cases ht:i < p.terms.length
   ·rw [if_pos ht,lens_term h i ht]
    refine ⟨rfl,fun x hx=>?_⟩
    rw [List.mem_singleton.1 hx]; omega
   ·rw [if_neg ht]
    obtain ⟨k,r,e1,e2,e3,e4,e5⟩:=T i (by omega) h0 hM
    rw [e1,Int.toNat_natCast,e2,e5]
    show ((r.right.flatMap fun x=>sentF p f x.toNat).length:Int)=_∧_
    have key:∀ l:List Int,(∀ x ∈ l,0≤(lens p).long x.toNat∧(lens p).long x.toNat≤(lens p).long i∧tm x.toNat < tm i)→((l.flatMap fun x=>sentF p f x.toNat).length:Int)=(l.map fun x=>(lens p).long x.toNat).sum∧∀ x ∈ l.flatMap (fun x=>sentF p f x.toNat),0≤x∧x < (p.terms.length:Int):=by
     intro l
     induction l with
     | nil=>intro _; exact ⟨rfl,fun x hx=>nomatch hx⟩
     | cons y l ih =>
      intro hl
      obtain ⟨i1,i2⟩:=ih (fun x hx=>hl x (by simp [hx]))
      obtain ⟨y1,y2,y3⟩:=hl y (by simp)
      obtain ⟨j1,j2⟩:=sentF_len h T f y.toNat (by omega) y1 (by omega)
      rw [List.flatMap_cons,List.map_cons,List.sum_cons,List.length_append]
      refine ⟨by push_cast; omega,fun x hx=>?_⟩
      rcases List.mem_append.1 hx with hx | hx
      ·exact j2 x hx
      ·exact i2 x hx
    exact key r.right e4
end Q
end Go.Proofs.YtjbggogbnckllaaDoor
end
section
set_option maxRecDepth 100000
namespace Go.Proofs.YtjbggogbnckllaaDoor
namespace Q
open Pl (Plan Prod)
theorem mu_add {N X i:Nat} (hi:i < N) (h:X.testBit i=false):mu N (Bs.add X i)+1=mu N X:=by
 unfold mu
 have e:bw (Bs.add X i).testBit=up (bw X.testBit) i 0:=by
  funext j
  unfold bw up
  rw [Bs.add_bit]
  by_cases hj:j=i
  ·subst hj; simp
  ·have:decide (i=j)=false:=by simp; omega
   rw [this,Bool.or_false,if_neg hj]
 rw [e]
 have h1:=weight_up N (bw X.testBit) i 0 hi
 have h2:wt (bw X.testBit i)=1:=by unfold bw; rw [h]; rfl
 have h3:wt 0=0:=rfl
 omega
section
variable {p:Plan} {X:Nat} {T:List Int} {E E':Prod→Prop}
theorem RI.pop {t:Int} (h:RI p X (t::T) fun _=>False):RI p X T fun r=>(r.left:Int)=t :=
 ⟨h.sub,h.acc,fun x hx=>h.pos x (by simp [hx]),fun r hr hx=>by
  rcases h.cl r hr hx with h1 | h1 | h1
  ·rcases List.mem_cons.1 h1 with h2 | h2
   ·exact .inr (.inl h2)
   ·exact .inl h2
  ·exact absurd h1 id
  ·exact .inr (.inr h1)⟩
end
end Q
end Go.Proofs.YtjbggogbnckllaaDoor
end
section
set_option maxRecDepth 100000
namespace Go.Proofs.YtjbggogbnckllaaDoor
open Go.RowKit
set_option linter.unusedVariables false
set_option linter.unusedSimpArgs false
section
variable {w w':World} {b n:Nat} {f:Nat→Int}
end
set_option maxHeartbeats 1000000 in
theorem held_any (x:Int) (w:World):Calls Tryd.prog 108 #[.int .i64 x] w fun e w'=>e=.returned (.int .i64 (Q.held x))∧w=w':=by
 have hv:Hid (Q.held x=if x≤1099511627776 then (if 0≤x then x else 0) else 1099511627776):=Lib.hid (by unfold Q.held Q.M; split<;>(try split)<;>omega)
 by_cases h1:x≤1099511627776
 ·by_cases h2:0≤x
  ·have hv2:Hid (Q.held x=x):=Lib.hid (by rw [hv.out,if_pos h1,if_pos h2])
   go_enter Tryd.func108,Tryd.ntmps108
   go_wp2_with fail
   go_ret
   exact ⟨ret_int (by rw [hv2.out]; omega),rfl⟩
  ·have hv2:Hid (Q.held x=0):=Lib.hid (by rw [hv.out,if_pos h1,if_neg h2])
   go_enter Tryd.func108,Tryd.ntmps108
   go_wp2_with fail
   go_ret
   exact ⟨ret_int (by rw [hv2.out]; omega),rfl⟩
 ·have hv2:Hid (Q.held x=1099511627776):=Lib.hid (by rw [hv.out,if_neg h1])
  go_enter Tryd.func108,Tryd.ntmps108
  go_wp2_with fail
  go_ret
  exact ⟨ret_int (by rw [hv2.out]; omega),rfl⟩
set_option maxHeartbeats 1000000 in
theorem add9_any (a b:Int) (w:World):Calls Tryd.prog 94 #[.int .i64 a,.int .i64 b] w fun e w'=>e=.returned (.int .i64 (Q.add a b))∧w=w':=by
 have ha:=held_any a w
 have hb:=held_any b w
 have hc:=held_any (Q.held a+Q.held b) w
 have r1:=Q.held_range a
 have r2:=Q.held_range b
 unfold Q.M at r1 r2
 obtain ⟨x,hx⟩:∃ x,x=Q.held a:=⟨_,rfl⟩
 obtain ⟨y,hy⟩:∃ y,y=Q.held b:=⟨_,rfl⟩
 have hv:Hid (Q.add a b=Q.held (x+y)):=Lib.hid (by rw [hx,hy]; rfl)
 rw [← hx] at ha hc r1
 rw [← hy] at hb hc r2
 clear hx hy
 go_enter Tryd.func94,Tryd.ntmps94
 go_wp2_with fail
 refine ha.mono ?_
 rintro e w' ⟨rfl,rfl⟩
 clear ha
 go_wp2_with fail
 refine hb.mono ?_
 rintro e w' ⟨rfl,rfl⟩
 clear hb
 go_wp2_with fail
 refine hc.mono ?_
 rintro e w' ⟨rfl,rfl⟩
 clear hc
 go_wp2_with fail
 go_ret
 exact ⟨ret_int hv.out.symm,rfl⟩
end Go.Proofs.YtjbggogbnckllaaDoor
end
section
set_option maxRecDepth 100000
namespace Go.Proofs.YtjbggogbnckllaaDoor
open Go.RowKit
set_option linter.unusedVariables false
set_option linter.unusedSimpArgs false
set_option maxHeartbeats 1000000 in
theorem heldR_any (x:Int) (w:World):Calls Tryd.prog 62 #[.int .i64 x] w fun e w'=>e=.returned (.int .i64 (Q.held x))∧w=w':=by
 have hv:Hid (Q.held x=if x≤1099511627776 then (if 0≤x then x else 0) else 1099511627776):=Lib.hid (by unfold Q.held Q.M; split<;>(try split)<;>omega)
 by_cases h2:0≤x
 ·by_cases h1:x≤1099511627776
  ·have hv2:Hid (Q.held x=x):=Lib.hid (by rw [hv.out,if_pos h1,if_pos h2])
   have d1:decide (x < 0)=false:=by simp; omega
   have d2:decide (1099511627776 < x)=false:=by simp; omega
   clear h1 h2
   go_enter Tryd.func62,Tryd.ntmps62
   go_wp2_with fail
   go_ret
   exact ⟨ret_int hv2.out.symm,rfl⟩
  ·have hv2:Hid (Q.held x=1099511627776):=Lib.hid (by rw [hv.out,if_neg h1])
   have d1:decide (x < 0)=false:=by simp; omega
   have d2:decide (1099511627776 < x)=true:=by simp; omega
   clear h1 h2
   go_enter Tryd.func62,Tryd.ntmps62
   go_wp2_with fail
   go_ret
   exact ⟨ret_int hv2.out.symm,rfl⟩
 ·have hv2:Hid (Q.held x=0):=Lib.hid (by rw [hv.out,if_pos (by omega),if_neg h2])
  have d1:decide (x < 0)=true:=by simp; omega
  clear h2
  go_enter Tryd.func62,Tryd.ntmps62
  go_wp2_with fail
  go_ret
  exact ⟨ret_int hv2.out.symm,rfl⟩
set_option maxHeartbeats 1000000 in
theorem addR_any (a b:Int) (w:World):Calls Tryd.prog 40 #[.int .i64 a,.int .i64 b] w fun e w'=>e=.returned (.int .i64 (Q.add a b))∧w=w':=by
 have ha:=heldR_any a w
 have hb:=heldR_any b w
 have hc:=heldR_any (Q.held a+Q.held b) w
 have r1:=Q.held_range a
 have r2:=Q.held_range b
 unfold Q.M at r1 r2
 obtain ⟨x,hx⟩:∃ x,x=Q.held a:=⟨_,rfl⟩
 obtain ⟨y,hy⟩:∃ y,y=Q.held b:=⟨_,rfl⟩
 have hv:Hid (Q.add a b=Q.held (x+y)):=Lib.hid (by rw [hx,hy]; rfl)
 rw [← hx] at ha hc r1
 rw [← hy] at hb hc r2
 clear hx hy
 go_enter Tryd.func40,Tryd.ntmps40
 go_wp2_with fail
 refine ha.mono ?_
 rintro e w' ⟨rfl,rfl⟩
 clear ha
 go_wp2_with fail
 refine hb.mono ?_
 rintro e w' ⟨rfl,rfl⟩
 clear hb
 go_wp2_with fail
 refine hc.mono ?_
 rintro e w' ⟨rfl,rfl⟩
 clear hc
 go_wp2_with fail
 go_ret
 exact ⟨ret_int hv.out.symm,rfl⟩
section
variable {w:World} {v:Value} {p:Pl.Plan}
set_option maxRecDepth 100000 in
set_option maxHeartbeats 2000000 in
theorem accept_any (h:PnV w v p) (h1:p.terms.length≤1000) (h2:p.vars.length≤1000) :
  Calls Tryd.prog 56 #[v] w fun e w'=>e=.returned (.int .i64 ((p.terms.length+p.vars.length:Nat):Int))∧Below w.heap.size w w':=by
 obtain ⟨ta,tc,va,vc,ra,rc,la,lc,aa,ac,ca,cc,rfl,h⟩:=h
 have HP:=PB.new (tc:=tc) (vc:=vc) (rc:=rc) (lc:=lc) (ac:=ac) (cc:=cc) h
 have HB:=Lib.hid ((Below.refl w.heap.size w).alloc (Nat.le_refl _) (.cells (pnC p ta va ra la aa ca tc vc rc lc ac cc) 32))
 unfold pnC at HP HB
 have c0:=HP.c0
 have c1:=HP.c1
 clear HP h
 go_enter Tryd.func56,Tryd.ntmps56
 go_wp2_with fail
 go_ret
 exact ⟨ret_int (by push_cast; rfl),HB.out⟩
set_option maxRecDepth 100000 in
set_option maxHeartbeats 2000000 in
theorem count_any (h:PnV w v p) (h1:p.terms.length≤1000) (h2:p.vars.length≤1000) :
  Calls Tryd.prog 36 #[v] w fun e w'=>e=.returned (.int .i64 ((Q.cnt p:Nat):Int))∧Below w.heap.size w w':=by
 obtain ⟨ta,tc,va,vc,ra,rc,la,lc,aa,ac,ca,cc,rfl,h⟩:=h
 have HP:=PB.new (tc:=tc) (vc:=vc) (rc:=rc) (lc:=lc) (ac:=ac) (cc:=cc) h
 have HB:=Lib.hid ((Below.refl w.heap.size w).alloc (Nat.le_refl _) (.cells (pnC p ta va ra la aa ca tc vc rc lc ac cc) 32))
 unfold pnC at HP HB
 have c0:=HP.c0
 have c1:=HP.c1
 clear HP h
 go_enter Tryd.func36,Tryd.ntmps36
 go_wp2_with fail
 go_ret
 exact ⟨ret_int (by unfold Q.cnt; push_cast; rfl),HB.out⟩
end
set_option maxRecDepth 100000 in
set_option maxHeartbeats 8000000 in
theorem sum_any {w:World} {lb bb n lc bc m rc:Nat} {long:Nat→Int} {ra:Option Addr} {r:List Int} {nv:Value} (h:Arr w lb n long) (hr:Ints w ra r) (hm:r.length≤1000000) (hn:n≤1000000) (hx:∀ x ∈ r,0≤x∧x < (n:Int)) (hnv:nv.oneCell'=true) :
  Calls Tryd.prog 77 #[.agg #[.slice (some ⟨lb,0,none⟩) n lc,nv],.slice ra r.length rc] w fun e w'=>e=.returned (.int .i64 (Q.sumF long r 0))∧Below w.heap.size w w':=by
 have k:=(Below.refl w.heap.size w).alloc (Nat.le_refl _) (.cells #[.slice (some ⟨lb,0,none⟩) n lc,nv] 103)
 have hP:=heap_alloc_new w (.cells #[.slice (some ⟨lb,0,none⟩) n lc,nv] 103)
 have c0:(w.alloc (.cells #[.slice (some ⟨lb,0,none⟩) n lc,nv] 103)).cell? ⟨w.heap.size,0,none⟩=some (.slice (some ⟨lb,0,none⟩) n lc):=by rw [cell_of_row _ _ _ _ _ _ hP]; rfl
 have HA:=Lib.hid (h.below k)
 have HR:=Lib.hid (hr.below k)
 have HK:=Lib.hid k
 have HX:=Lib.hid hx
 obtain ⟨R,hR⟩:∃ R,R=Q.sumF long r 0:=⟨_,rfl⟩
 have HV:=Lib.hid hR.symm
 rw [← hR]
 clear h hr k hP hx hR
 go_enter Tryd.func77,Tryd.ntmps77
 go_wp2_with fail
 generalize w.alloc (.cells #[.slice (some ⟨lb,0,none⟩) n lc,nv] 103)=W at HA HR HK c0 ⊢
 go_loop [5,7,10] (fun t x i=>∃ (k:Nat) (q:Int),i=.int .i64 k∧t=.int .i64 q∧k≤r.length∧0≤q∧q≤1099511627776∧Hid (Q.sumF long (r.drop k) q=R)) (fun _ _ i=>r.length - (intOf i).toNat)
 case atStart=>exact ⟨0,0,rfl,rfl,by omega,by omega,by omega,HV⟩
 case round =>
  clear HV
  obtain ⟨k,q,rfl,rfl,hk,hq0,hq1,HS⟩:=hrel
  by_cases hlt:k < r.length
  ·obtain ⟨b,off,rfl,t0⟩:=HR.out k hlt
   obtain ⟨hx0,hx1⟩:=HX.out r[k] (List.getElem_mem hlt)
   have hs:=HS.out
   rw [List.drop_eq_getElem_cons hlt,Q.sumF] at hs
   generalize r[k]=x at t0 hx0 hx1 hs
   obtain ⟨y,rfl⟩:∃ y:Nat,x=y:=⟨x.toNat,by omega⟩
   rw [Int.toNat_natCast] at hs
   have hyn:y < n:=by omega
   have c1:=HA.out.cell hyn
   clear HS
   by_cases hneg:long y < 0
   ·have d:decide (long y < 0)=true:=by simpa using hneg
    rw [if_pos hneg] at hs
    have HS:=Lib.hid hs
    clear hs hneg
    go_wp2_with fail
    go_ret
    exact ⟨ret_int HS.out,HK.out⟩
   ·have d:decide (long y < 0)=false:=by simpa using hneg
    rw [if_neg hneg] at hs
    have HS:=Lib.hid hs
    have hadd:=add9_any q (long y) W
    have hr':=Q.add_range q (long y)
    unfold Q.M at hr'
    generalize Q.add q (long y)=z at HS hadd hr'
    clear hs hneg
    go_wp2_with fail
    refine hadd.mono ?_
    rintro e w' ⟨rfl,rfl⟩
    clear hadd
    go_wp2_with fail
    go_round
    case rel=>exact ⟨k+1,z,by go_num,rfl,by omega,hr'.1,hr'.2,HS⟩
    case measure=>simp [intOf]; omega
  ·have hs:=HS.out
   rw [List.drop_eq_nil_of_le (by omega),Q.sumF] at hs
   have HE:=Lib.hid hs
   clear HS hs
   go_wp2_with fail
   go_ret
   exact ⟨ret_int HE.out,HK.out⟩
end Go.Proofs.YtjbggogbnckllaaDoor
end
