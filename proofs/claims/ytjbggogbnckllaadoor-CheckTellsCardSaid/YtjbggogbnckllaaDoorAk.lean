/-
  append(append([]T{}, xs...), x), once for all.
  A small grammar's numbers in memory; are they few.
  A grammar under construction in memory.
  A small grammar has a plan (plain).
  A small grammar has a plan (plain): the plan.
-/
import Derived.Test.YtjbggogbnckllaaDoorIx
import Derived.Test.YtjbggogbnckllaaDoorAj
section
set_option maxRecDepth 100000
namespace Go.Proofs.YtjbggogbnckllaaDoor
open Go Go.RowKit
set_option linter.unusedVariables false
theorem eval_put_same {a:Act} {d:Tmp} {v:Value} (h:d < a.tmps.size):(a.put (some d) v).eval (.tmp d)=v:=by
 simp [Act.put,Act.eval,h]
theorem eval_put_ne {a:Act} {d d':Tmp} {v:Value} (h:d≠d'):(a.put (some d) v).eval (.tmp d')=a.eval (.tmp d'):=by
 simp [Act.put,Act.eval,Array.getElem?_setIfInBounds_ne h]
section
variable {P:Program} {D:World→Prop} {ops:Array Oper} {rest:List Oper} {o:Oper} {a:Act} {w:World} {Q:Exit→Act→World→Prop} {k:Nat}
theorem listE_bs0 (hgd:o.guard=none) (t e:TypeId) (size bytes:Nat) (E:Elt P t e size bytes) (ho:o.op=.buildSlice t 0 #[])
  (h:D (w.alloc (.cells #[] e))∧wpListE P ops Q D k rest (a.put o.dst (.slice (some ⟨w.heap.size,0,none⟩) 0 0)) (w.alloc (.cells #[] e))):wpListE P ops Q D (k+1) (o::rest) a w:=by
 refine listE_wp hgd ?_
 unfold Oper.wp execOp
 simp only [ho,List.map_toArray,List.map_nil,Sem.run_bind]
 rw [run_bs0 E]
 exact h
theorem listE_bs1 (hgd:o.guard=none) (t e:TypeId) (size bytes:Nat) (E:Elt P t e size bytes) (hlt:size≤1000) (y:Operand) (ho:o.op=.buildSlice t 1 #[(0,y)]) (v:Value) (cs:Array Value) (hv:v.cells=cs) (hc:cs.size=size) (hy:a.eval y=v)
  (h:D (w.alloc (.cells cs e))∧wpListE P ops Q D k rest (a.put o.dst (.slice (some ⟨w.heap.size,0,none⟩) 1 1)) (w.alloc (.cells cs e))):wpListE P ops Q D (k+1) (o::rest) a w:=by
 refine listE_wp hgd ?_
 unfold Oper.wp execOp
 simp only [ho,Sem.run_bind]
 rw [show (#[(0,y)]:Array (Nat×Operand)).map (fun x=>(x.1,a.eval x.2))=#[(0,v)] by rw [← hy]; simp,run_bs1 E hlt v cs hv hc]
 exact h
theorem listE_many (hgd:o.guard=none) (s x:Operand) (t:TypeId) (ho:o.op=.call { callee:=.builtin .append,args:=#[s,x],argTypes:=#[t,t] }) (e:TypeId) (base size bytes:Nat) (E:Elt P t e size bytes) (v:Value) (n:Nat) (xs:List Value) (hs:a.eval s=v) (hown:w.ownsRow base e size v n xs)
  (ad:Addr) (m c:Nat) (news:List Value) (hx:a.eval x=.slice (some ad) m c) (hl:news.length=m*size) (hnews:∀ j u,news[j]?=some u→w.cell? (ad.add j)=some u) (h1:∀ u ∈ news,u.oneCell'=true)
  (hm:0 < m) (h63:n+m≤maxLen) (hroom:(n+m)*bytes≤140737488355328) (hbase:base≤w.heap.size)
  (h:∀ g cap w',w'.ownsRow base e size (.slice (some ⟨g,0,none⟩) (n+m) cap) (n+m) (xs++news)→w.grownBy w' v.ownBlock→g < w'.heap.size→(v.ownBlock=some g∨g=w.heap.size)→D w'∧wpListE P ops Q D k rest (a.put o.dst (.slice (some ⟨g,0,none⟩) (n+m) cap)) w') :
  wpListE P ops Q D (k+1) (o::rest) a w:=by
 obtain ⟨i,z,hi,hz,hsz,hby,hzs⟩:=E.hi
 refine listE_wp hgd ?_
 exact wp_append_lies w s x t ho base e i z size bytes E.ht hi hz hsz hby hzs E.hsz v n xs hs hown ad m c news hx hl hnews h1 hm h63 hroom hbase w.heap.size rfl fun g cap w' h2 h3 h4 h5=>h g cap w' h2 h3 h5 h4
theorem listE_one (hgd:o.guard=none) (s x:Operand) (t:TypeId) (ho:o.op=.call { callee:=.builtin .append,args:=#[s,x],argTypes:=#[t,t] }) (e:TypeId) (base size bytes:Nat) (E:Elt P t e size bytes) (v:Value) (n:Nat) (xs:List Value) (hs:a.eval s=v) (hown:w.ownsRow base e size v n xs)
  (ad:Addr) (c:Nat) (news:List Value) (hx:a.eval x=.slice (some ad) 1 c) (hl:news.length=size) (hnews:∀ j u,news[j]?=some u→w.cell? (ad.add j)=some u) (h1:∀ u ∈ news,u.oneCell'=true)
  (h63:n+1≤maxLen) (hroom:(n+n / 4+512)*bytes≤281474976710656) (hbase:base≤w.heap.size)
  (h:∀ g cap w',w'.ownsRow base e size (.slice (some ⟨g,0,none⟩) (n+1) cap) (n+1) (xs++news)→w.grownBy w' v.ownBlock→base≤g→g < w'.heap.size→(v.ownBlock=some g∨g=w.heap.size)→D w'∧wpListE P ops Q D k rest (a.put o.dst (.slice (some ⟨g,0,none⟩) (n+1) cap)) w') :
  wpListE P ops Q D (k+1) (o::rest) a w :=
 listE_wp hgd (wp_append_one s x t ho e base size bytes E v n xs hs hown ad c news hx hl hnews h1 h63 hroom hbase h)
/-- A new variable of a struct's type. -/
theorem listE_alloc_row (hgd:o.guard=none) (T:TypeId) (ho:o.op=.alloc T) (z:Array Value) (hz:(P.info? T).map (·.zero)=some (some (.agg z)))
  (h:D (w.alloc (.cells z T))∧wpListE P ops Q D k rest (a.put o.dst (.pointer (some ⟨w.heap.size,0,none⟩))) (w.alloc (.cells z T))):wpListE P ops Q D (k+1) (o::rest) a w:=by
 refine listE_wp hgd ?_
 cases hi:P.info? T with
 | none=>simp [hi] at hz
 | some i =>
  have hzz:i.zero=some (.agg z):=by simpa [hi] using hz
  unfold Oper.wp execOp
  simp only [ho]
  simp [Instr.alloc,zeroValue,typeInfo,hi,hzz,newVar,newRow,Value.cells]
  exact h
/-- One that only reads. -/
theorem listE_quiet (hgd:o.guard=none) (h:wpQuiet P ops (fun w'=>w'=w) (fun a'=>D w∧wpListE P ops Q D k rest a' w) [o] a):wpListE P ops Q D (k+1) (o::rest) a w:=by
 refine listE_wp hgd ?_
 have hw:Region.wanted o (yielded ops a.tmps)=true:=by simp [Region.wanted,hgd]
 simp only [wpQuiet,hw,if_true] at h
 obtain ⟨v,h1,h2⟩:=h
 exact Oper.wp_of_quiet (C:=fun w'=>w'=w) (K:=fun a'=>D w∧wpListE P ops Q D k rest a' w) rfl (fun a' w' e hk=>by rw [e]; exact hk) ⟨v,fun w1 e=>by rw [e]; exact h1 w rfl,h2⟩
end
theorem wd_own {B:Nat} {w W W':World} {e:TypeId} {size n:Nat} {v:Value} {xs:List Value} (hW:Below B w W) (hb:B≤W.heap.size) (ho:W.ownsRow B e size v n xs) (hg:W.grownBy W' v.ownBlock):Below B w W' :=
 hW.trans (below_own ho hb hg)
/-- **append(append([]T{}, xs...), x).** -/
theorem region_appapp {P:Program} {id:Nat} {l:List Oper} {Q:Exit→Act→World→Prop} {a:Act} {w:World} (hs:List Nat) (b0 ap b1 ap2:Nat) (ts:List Nat) (sz:Nat) (A:Act) (hQ:∀ c (a:Act) (d:Option Tmp) (v:Value) w,Q (.panic c) (a.put d v) w→Q (.panic c) a w)
  (hm:P.follows .mixedOrders=true) (hB:gx3B l hs b0 ap b1 (ap2::ts) 1 sz=true) (hsz:a.tmps.size=sz)
  (hh:∀ z:Wd w.heap.size w,wpQuiet P l.toArray (fun w'=>w'=z.w) (fun a'=>a'=A) (pickL l hs) a)
  (t e:TypeId) (size bytes:Nat) (E:Elt P t e size bytes) (hlt:size≤1000) (hbt:bytes≤1000) (o0 oa o1 o2:Oper) (d0 da d1 d2:Tmp) (x y:Operand)
  (g0:l[b0]?=some o0) (ga:l[ap]?=some oa) (g1:l[b1]?=some o1) (g2:l[ap2]?=some o2)
  (p0:o0.op=.buildSlice t 0 #[]) (pa:oa.op=.call { callee:=.builtin .append,args:=#[.tmp d0,x],argTypes:=#[t,t] }) (p1:o1.op=.buildSlice t 1 #[(0,y)]) (p2:o2.op=.call { callee:=.builtin .append,args:=#[.tmp da,.tmp d1],argTypes:=#[t,t] })
  (q0:o0.dst=some d0) (qa:oa.dst=some da) (q1:o1.dst=some d1) (q2:o2.dst=some d2) (n0:o0.guard=none) (na:oa.guard=none) (n1:o1.guard=none) (n2:o2.guard=none)
  (hA:A.tmps.size=sz) (hd:d0 < sz∧da < sz∧d1 < sz∧d0≠da∧d0≠d1∧da≠d1)
  (ad:Addr) (m c:Nat) (news:List Value) (hx:A.eval x=.slice (some ad) m c) (hxd:∀ d v (B:Act),d=d0∨d=d1→(B.put (some d) v).eval x=B.eval x) (hl:news.length=m*size) (hnews:∀ z:Wd w.heap.size w,∀ j u,news[j]?=some u→z.w.cell? (ad.add j)=some u) (h1:∀ u ∈ news,u.oneCell'=true) (hm0:0 < m) (hm1:m≤100000)
  (v:Value) (cs:Array Value) (hv:v.cells=cs) (hc:cs.size=size) (hy:A.eval y=v) (hyd:∀ d v (B:Act),d=d0∨d=da→(B.put (some d) v).eval y=B.eval y) (hc1:∀ u ∈ cs.toList,u.oneCell'=true)
  (hK:∀ v0 va v1 g cap w',Below w.heap.size w w'→w'.ownsRow w.heap.size e size (.slice (some ⟨g,0,none⟩) (m+1) cap) (m+1) (news++cs.toList)→w.heap.size≤g→g < w'.heap.size →
   wpList P l.toArray Q (pickL l ts) ((((A.put (some d0) v0).put (some da) va).put (some d1) v1).put (some d2) (.slice (some ⟨g,0,none⟩) (m+1) cap)) w'):(Code.region id l.toArray true).wp P Q a w:=by
 obtain ⟨l0,la,l1,hne1,hne2,hne3⟩:=hd
 have hml:(1:Nat)≤maxLen:=by unfold maxLen; omega
 have hm63:0+m≤maxLen:=by unfold maxLen; omega
 have hm64:m+1≤maxLen:=by unfold maxLen; omega
 have hr1:(0+m)*bytes≤140737488355328:=by
  have:(0+m)*bytes≤100000*1000:=Nat.mul_le_mul (by omega) hbt
  omega
 have hr2:(m+m / 4+512)*bytes≤281474976710656:=by
  have:(m+m / 4+512)*bytes≤200000*1000:=Nat.mul_le_mul (by omega) hbt
  omega
 have hw0:Below w.heap.size w w.drew:=(Below.refl _ _).drew
 refine region_three hs b0 ap b1 (ap2::ts) 1 sz w.heap.size A hQ (Nat.le_refl _) hm hB hsz hh ?_ ?_ ?_
 ·-- b0, ap, b1, ap2
  rw [show pickL l (b0::ap::b1::ap2::ts)=o0::oa::o1::o2::pickL l ts by simp [pickL,g0,ga,g1,g2]]
  refine listE_bs0 n0 t e size bytes E p0 ⟨⟨⟨_,hw0.alloc (Nat.le_refl _) _⟩,rfl⟩,?_⟩
  have ow:=own_new w.drew w.heap.size (Nat.le_refl _) e size 0 #[] (by simp) (Nat.zero_le _)
  rw [q0]
  have hw1:=hw0.alloc (Nat.le_refl _) (.cells #[] e)
  refine listE_many na (.tmp d0) x t pa e w.heap.size size bytes E _ 0 _ (eval_put_same (by rw [hA]; exact l0)) ow ad m c news (by rw [hxd _ _ _ (.inl rfl),hx]) hl (hnews ⟨_,hw1⟩) h1 hm0 hm63 hr1 hw1.size ?_
  intro g cap w2 ho hg hgl hat
  have hw2:=wd_own hw1 hw1.size ow hg
  refine ⟨⟨⟨w2,hw2⟩,rfl⟩,?_⟩
  rw [qa]
  have hw3:=hw2.alloc hw2.size (.cells cs e)
  refine listE_bs1 n1 t e size bytes E hlt y p1 v cs hv hc (by rw [hyd _ _ _ (.inr rfl),hyd _ _ _ (.inl rfl),hy]) ⟨⟨⟨_,hw3⟩,rfl⟩,?_⟩
  rw [q1]
  have ho3:=ho.alloc (.cells cs e)
  simp only [Nat.zero_add] at ho3 ⊢
  refine listE_one n2 (.tmp da) (.tmp d1) t p2 e w.heap.size size bytes E _ m _ (by rw [eval_put_ne (Ne.symm hne3)]; exact eval_put_same (by simp [Act.put,hA]; exact la)) ho3 ⟨w2.heap.size,0,none⟩ 1 cs.toList (eval_put_same (by simp [Act.put,hA]; exact l1)) (by simpa using hc) (World.news_of_block (heap_alloc_new w2 _)) hc1 hm64 hr2 hw3.size ?_
  intro g' cap' w4 ho4 hg4 hbg4 hgl4 hat4
  have hw4:=wd_own hw3 hw3.size ho3 hg4
  refine ⟨⟨⟨w4,hw4⟩,rfl⟩,?_⟩
  rw [q2]
  exact hK _ _ _ g' cap' w4 hw4 (by simpa using ho4) hbg4 hgl4
 ·-- b0, b1, ap, ap2
  rw [show pickL l (b0::b1::ap::ap2::ts)=o0::o1::oa::o2::pickL l ts by simp [pickL,g0,ga,g1,g2]]
  refine listE_bs0 n0 t e size bytes E p0 ⟨⟨⟨_,hw0.alloc (Nat.le_refl _) _⟩,rfl⟩,?_⟩
  have ow:=own_new w.drew w.heap.size (Nat.le_refl _) e size 0 #[] (by simp) (Nat.zero_le _)
  rw [q0]
  have hw1:=hw0.alloc (Nat.le_refl _) (.cells #[] e)
  have hw3:=hw1.alloc hw1.size (.cells cs e)
  refine listE_bs1 n1 t e size bytes E hlt y p1 v cs hv hc (by rw [hyd _ _ _ (.inl rfl),hy]) ⟨⟨⟨_,hw3⟩,rfl⟩,?_⟩
  rw [q1]
  have ow2:=ow.alloc (.cells cs e)
  have hn1:=heap_alloc_new (w.drew.alloc (.cells #[] e)) (.cells cs e)
  refine listE_many na (.tmp d0) x t pa e w.heap.size size bytes E _ 0 _ (by rw [eval_put_ne (Ne.symm hne2)]; exact eval_put_same (by rw [hA]; exact l0)) ow2 ad m c news (by rw [hxd _ _ _ (.inr rfl),hxd _ _ _ (.inl rfl),hx]) hl (hnews ⟨_,hw3⟩) h1 hm0 hm63 hr1 hw3.size ?_
  intro g cap w2 ho hg hgl hat
  have hw2:=wd_own hw3 hw3.size ow2 hg
  refine ⟨⟨⟨w2,hw2⟩,rfl⟩,?_⟩
  rw [qa]
  have hn2:w2.heap[(w.drew.alloc (.cells #[] e)).heap.size]?=some (.cells cs e (0,0)):=(hg.block _ (by simp) (fun e=>by simp [Value.ownBlock] at e)).trans hn1
  simp only [Nat.zero_add] at ho ⊢
  refine listE_one n2 (.tmp da) (.tmp d1) t p2 e w.heap.size size bytes E _ m _ (eval_put_same (by simp [Act.put,hA]; exact la)) ho ⟨(w.drew.alloc (.cells #[] e)).heap.size,0,none⟩ 1 cs.toList (by rw [eval_put_ne hne3]; exact eval_put_same (by simp [Act.put,hA]; exact l1)) (by simpa using hc) (World.news_of_block hn2) hc1 hm64 hr2 hw2.size ?_
  intro g' cap' w4 ho4 hg4 hbg4 hgl4 hat4
  have hw4:=wd_own hw2 hw2.size ho hg4
  refine ⟨⟨⟨w4,hw4⟩,rfl⟩,?_⟩
  rw [q2,Act.put_comm _ _ _ (x:=some d1) (y:=some da) (fun d hd=>by cases hd; simpa using hne3)]
  exact hK _ _ _ g' cap' w4 hw4 (by simpa using ho4) hbg4 hgl4
 ·-- b1, b0, ap, ap2
  rw [show pickL l (b1::b0::ap::ap2::ts)=o1::o0::oa::o2::pickL l ts by simp [pickL,g0,ga,g1,g2]]
  have hw1:=hw0.alloc (Nat.le_refl _) (.cells cs e)
  have hn1:=heap_alloc_new w.drew (.cells cs e)
  refine listE_bs1 n1 t e size bytes E hlt y p1 v cs hv hc hy ⟨⟨⟨_,hw1⟩,rfl⟩,?_⟩
  rw [q1]
  have hw3:=hw1.alloc hw1.size (.cells #[] e)
  refine listE_bs0 n0 t e size bytes E p0 ⟨⟨⟨_,hw3⟩,rfl⟩,?_⟩
  have ow:=own_new (w.drew.alloc (.cells cs e)) w.heap.size hw1.size e size 0 #[] (by simp) (Nat.zero_le _)
  rw [q0]
  refine listE_many na (.tmp d0) x t pa e w.heap.size size bytes E _ 0 _ (eval_put_same (by simp [Act.put,hA]; exact l0)) ow ad m c news (by rw [hxd _ _ _ (.inl rfl),hxd _ _ _ (.inr rfl),hx]) hl (hnews ⟨_,hw3⟩) h1 hm0 hm63 hr1 hw3.size ?_
  intro g cap w2 ho hg hgl hat
  have hw2:=wd_own hw3 hw3.size ow hg
  refine ⟨⟨⟨w2,hw2⟩,rfl⟩,?_⟩
  rw [qa]
  have hn2:w2.heap[w.drew.heap.size]?=some (.cells cs e (0,0)):=(hg.block _ (by simp; omega) (fun e=>by simp [Value.ownBlock] at e)).trans ((Below.heap_alloc _ _ _ (by simp)).trans hn1)
  simp only [Nat.zero_add] at ho ⊢
  refine listE_one n2 (.tmp da) (.tmp d1) t p2 e w.heap.size size bytes E _ m _ (eval_put_same (by simp [Act.put,hA]; exact la)) ho ⟨w.drew.heap.size,0,none⟩ 1 cs.toList (by rw [eval_put_ne hne3,eval_put_ne hne2]; exact eval_put_same (by rw [hA]; exact l1)) (by simpa using hc) (World.news_of_block hn2) hc1 hm64 hr2 hw2.size ?_
  intro g' cap' w4 ho4 hg4 hbg4 hgl4 hat4
  have hw4:=wd_own hw2 hw2.size ho hg4
  refine ⟨⟨⟨w4,hw4⟩,rfl⟩,?_⟩
  rw [q2,Act.put_comm _ _ _ (x:=some d1) (y:=some d0) (fun d hd=>by cases hd; simpa using hne2),Act.put_comm _ _ _ (x:=some d1) (y:=some da) (fun d hd=>by cases hd; simpa using hne3)]
  exact hK _ _ _ g' cap' w4 hw4 (by simpa using ho4) hbg4 hgl4
end Go.Proofs.YtjbggogbnckllaaDoor
end
section
set_option maxRecDepth 100000
namespace Go.Proofs.YtjbggogbnckllaaDoor
open Go.RowKit
set_option linter.unusedVariables false
set_option linter.unusedSimpArgs false
/-- A slice of bytes. -/
def Byts (w:World) (a:Option Addr) (l:List Nat):Prop:=∀ i (h:i < l.length),∃ b off,a=some ⟨b,off,none⟩∧w.cell? ⟨b,off+i,none⟩=some (.int .u8 (l[i]:Nat))∧l[i] < 256
theorem Byts.below {w w':World} {a:Option Addr} {l:List Nat} (h:Byts w a l) (k:Below w.heap.size w w'):Byts w' a l:=by
 intro i hi
 obtain ⟨b,off,rfl,hc,h2⟩:=h i hi
 exact ⟨b,off,rfl,((bcell k).1 _ _ (World.block_lt_of_cell? w _ hc)).trans hc,h2⟩
/-- A slice of slices of bytes. -/
def Rts (w:World) (a:Option Addr) (l:List (List Nat)):Prop:=∀ i (h:i < l.length),∃ b off na nc,a=some ⟨b,off,none⟩∧w.cell? ⟨b,off+i,none⟩=some (.slice na l[i].length nc)∧Byts w na l[i]
theorem Rts.below {w w':World} {a:Option Addr} {l:List (List Nat)} (h:Rts w a l) (k:Below w.heap.size w w'):Rts w' a l:=by
 intro i hi
 obtain ⟨b,off,na,nc,rfl,hc,h2⟩:=h i hi
 exact ⟨b,off,na,nc,rfl,((bcell k).1 _ _ (World.block_lt_of_cell? w _ hc)).trans hc,h2.below k⟩
/-- The numbers of a small grammar. -/
structure SmA (w:World) (s:Pl.Sm) (la ra pa aa va:Option Addr):Prop where
 t:s.tokens < 256
 v:s.vars < 256
 l:Byts w la s.lefts
 r:Rts w ra s.rights
 p:Byts w pa s.precs
 a:Byts w aa s.assocs
 vl:Byts w va s.levels
theorem SmA.below {w w':World} {s:Pl.Sm} {la ra pa aa va:Option Addr} (h:SmA w s la ra pa aa va) (k:Below w.heap.size w w'):SmA w' s la ra pa aa va :=
 ⟨h.t,h.v,h.l.below k,h.r.below k,h.p.below k,h.a.below k,h.vl.below k⟩
def smC (s:Pl.Sm) (la ra pa aa va:Option Addr) (lc rc pc ac vc:Nat):Array Value :=
 #[.int .u8 (s.tokens:Nat),.int .u8 (s.vars:Nat),.slice la s.lefts.length lc,.slice ra s.rights.length rc,.slice pa s.precs.length pc,.slice aa s.assocs.length ac,.slice va s.levels.length vc]
/-- Its variable. -/
structure SB (W:World) (b:Nat) (s:Pl.Sm) (la ra pa aa va:Option Addr) (lc rc pc ac vc:Nat):Prop where
 lt:b < W.heap.size
 c0:W.cell? ⟨b,0,none⟩=some (.int .u8 (s.tokens:Nat))
 c1:W.cell? ⟨b,1,none⟩=some (.int .u8 (s.vars:Nat))
 c2:W.cell? ⟨b,2,none⟩=some (.slice la s.lefts.length lc)
 c3:W.cell? ⟨b,3,none⟩=some (.slice ra s.rights.length rc)
 c4:W.cell? ⟨b,4,none⟩=some (.slice pa s.precs.length pc)
 c5:W.cell? ⟨b,5,none⟩=some (.slice aa s.assocs.length ac)
 c6:W.cell? ⟨b,6,none⟩=some (.slice va s.levels.length vc)
 a:SmA W s la ra pa aa va
theorem SB.below {W W':World} {b:Nat} {s:Pl.Sm} {la ra pa aa va:Option Addr} {lc rc pc ac vc:Nat} (h:SB W b s la ra pa aa va lc rc pc ac vc) (k:Below W.heap.size W W'):SB W' b s la ra pa aa va lc rc pc ac vc :=
 ⟨Nat.lt_of_lt_of_le h.lt k.size,((bcell k).1 _ _ h.lt).trans h.c0,((bcell k).1 _ _ h.lt).trans h.c1,((bcell k).1 _ _ h.lt).trans h.c2,((bcell k).1 _ _ h.lt).trans h.c3,((bcell k).1 _ _ h.lt).trans h.c4,((bcell k).1 _ _ h.lt).trans h.c5,((bcell k).1 _ _ h.lt).trans h.c6,h.a.below k⟩
theorem SB.new {w:World} {s:Pl.Sm} {la ra pa aa va:Option Addr} {lc rc pc ac vc:Nat} (h:SmA w s la ra pa aa va):SB (w.alloc (.cells (smC s la ra pa aa va lc rc pc ac vc) 25)) w.heap.size s la ra pa aa va lc rc pc ac vc:=by
 have hP:=heap_alloc_new w (.cells (smC s la ra pa aa va lc rc pc ac vc) 25)
 have k:=(Below.refl w.heap.size w).alloc (Nat.le_refl _) (.cells (smC s la ra pa aa va lc rc pc ac vc) 25)
 refine ⟨by simp,?_,?_,?_,?_,?_,?_,?_,h.below k⟩
 all_goals (rw [cell_of_row _ _ _ _ _ _ hP]; rfl)
/-- Its value. -/
def SmV (w:World) (v:Value) (s:Pl.Sm):Prop:=∃ la ra pa aa va lc rc pc ac vc,v=.agg (smC s la ra pa aa va lc rc pc ac vc)∧SmA w s la ra pa aa va
theorem SmV.below {w w':World} {v:Value} {s:Pl.Sm} (h:SmV w v s) (k:Below w.heap.size w w'):SmV w' v s:=by
 obtain ⟨la,ra,pa,aa,va,lc,rc,pc,ac,vc,e,h⟩:=h
 exact ⟨la,ra,pa,aa,va,lc,rc,pc,ac,vc,e,h.below k⟩
/-- All the lists are short enough for the machine. -/
structure SmSz (s:Pl.Sm):Prop where
 l:s.lefts.length≤9223372036854775807
 r:s.rights.length≤9223372036854775807
 p:s.precs.length≤9223372036854775807
 a:s.assocs.length≤9223372036854775807
 v:s.levels.length≤9223372036854775807
 rr:∀ x ∈ s.rights,x.length≤9223372036854775807
theorem few_no {s:Pl.Sm} {rules right i:Nat} (hi:i < s.rights.length) (h:right < s.rights[i].length):Pl.few s rules right=false:=by
 unfold Pl.few
 have:(s.rights.all fun r=>decide (r.length≤right))=false:=by
  rw [Bool.eq_false_iff]
  intro hh
  have:=List.all_eq_true.1 hh _ (List.getElem_mem hi)
  simp at this
  omega
 rw [this,Bool.and_false]
theorem few_yes {s:Pl.Sm} {rules right:Nat} (h1:s.lefts.length≤rules) (h2:s.assocs.length≤5) (h:∀ i (hi:i < s.rights.length),s.rights[i].length≤right):Pl.few s rules right=true:=by
 unfold Pl.few
 simp only [Bool.and_eq_true,decide_eq_true_eq,List.all_eq_true]
 refine ⟨⟨h1,h2⟩,fun x hx=>?_⟩
 obtain ⟨i,hi,rfl⟩:=List.getElem_of_mem hx
 exact h i hi
set_option maxRecDepth 100000 in
set_option maxHeartbeats 8000000 in
theorem few_any {w:World} {v:Value} {s:Pl.Sm} (rules right:Nat) (h:SmV w v s) (hz:SmSz s) (hr:rules≤1000) (hr2:right≤1000) :
  Calls Tryd.prog 15 #[v,.int .i64 (rules:Nat),.int .i64 (right:Nat)] w fun e w'=>e=.returned (.bool (Pl.few s rules right))∧Below w.heap.size w w':=by
 obtain ⟨la,ra,pa,aa,va,lc,rc,pc,ac,vc,rfl,h⟩:=h
 have HS:=Lib.hid (SB.new (lc:=lc) (rc:=rc) (pc:=pc) (ac:=ac) (vc:=vc) h)
 have HB:=Lib.hid ((Below.refl w.heap.size w).alloc (Nat.le_refl _) (.cells (smC s la ra pa aa va lc rc pc ac vc) 25))
 unfold smC at HS HB
 have c2:=HS.out.c2
 have c3:=HS.out.c3
 have c5:=HS.out.c5
 have HZ:=Lib.hid hz
 have z1:=hz.l
 have z2:=hz.a
 clear h hz
 unfold smC
 by_cases h1:s.lefts.length≤rules
 case neg =>
  have hv:Hid (Pl.few s rules right=false):=Lib.hid (by unfold Pl.few; simp [h1])
  have d1:decide ((rules:Int) < (s.lefts.length:Int))=true:=by simp; omega
  go_enter Tryd.func15,Tryd.ntmps15
  go_wp2_with fail
  go_ret
  exact ⟨ret_bool hv.out.symm,HB.out⟩
 have d1:decide ((rules:Int) < (s.lefts.length:Int))=false:=by simp; omega
 by_cases h2:s.assocs.length≤5
 case neg =>
  have hv:Hid (Pl.few s rules right=false):=Lib.hid (by unfold Pl.few; simp [h2])
  have d2:decide ((5:Int) < (s.assocs.length:Int))=true:=by simp; omega
  go_enter Tryd.func15,Tryd.ntmps15
  go_wp2_with fail
  go_ret
  exact ⟨ret_bool hv.out.symm,HB.out⟩
 have d2:decide ((5:Int) < (s.assocs.length:Int))=false:=by simp; omega
 have z3:=HZ.out.r
 go_enter Tryd.func15,Tryd.ntmps15
 go_wp2_with fail
 generalize w.alloc (.cells #[.int .u8 (s.tokens:Nat),.int .u8 (s.vars:Nat),.slice la s.lefts.length lc,.slice ra s.rights.length rc,.slice pa s.precs.length pc,.slice aa s.assocs.length ac,.slice va s.levels.length vc] 25)=W at HS HB c2 c3 c5 ⊢
 go_loop [7] (fun i=>∃ k:Nat,i=.int .i64 k∧k≤s.rights.length∧Hid (∀ j (hj:j < s.rights.length),j < k→s.rights[j].length≤right)) (fun i=>s.rights.length - (intOf i).toNat)
 case atStart=>exact ⟨0,rfl,by omega,Lib.hid (fun j hj h=>by omega)⟩
 case round =>
  obtain ⟨k,rfl,hk,T⟩:=hrel
  by_cases hlt:k < s.rights.length
  ·obtain ⟨b,off,na,nc,rfl,hc,_⟩:=HS.out.a.r k hlt
   have hz3:=HZ.out.rr _ (List.getElem_mem hlt)
   obtain ⟨x,hx⟩:∃ x,x=s.rights[k].length:=⟨_,rfl⟩
   rw [← hx] at hc hz3
   have HX:=Lib.hid hx
   clear hx
   by_cases hn:x≤right
   ·have dn:decide ((right:Int) < (x:Int))=false:=by simp; omega
    have T2:Hid (∀ j (hj:j < s.rights.length),j < k+1→s.rights[j].length≤right):=Lib.hid (fun j hj hjk=>by
     by_cases e:j=k
     ·subst e; rw [← HX.out]; exact hn
     ·exact T.out j hj (by omega))
    clear T
    go_wp2_with fail
    go_round
    case rel=>exact ⟨k+1,by go_num,by omega,T2⟩
    case measure=>simp [intOf]; omega
   ·have dn:decide ((right:Int) < (x:Int))=true:=by simp; omega
    have hv:Hid (Pl.few s rules right=false):=Lib.hid (few_no hlt (by rw [← HX.out]; omega))
    clear T
    go_wp2_with fail
    go_ret
    exact ⟨ret_bool hv.out.symm,HB.out⟩
  ·have hv:Hid (Pl.few s rules right=true):=Lib.hid (few_yes h1 h2 (fun i hi=>T.out i hi (by omega)))
   clear T
   go_wp2_with fail
   go_ret
   exact ⟨ret_bool hv.out.symm,HB.out⟩
end Go.Proofs.YtjbggogbnckllaaDoor
end
section
set_option maxRecDepth 100000
namespace Go.Proofs.YtjbggogbnckllaaDoor
open Go.RowKit
set_option linter.unusedVariables false
set_option linter.unusedSimpArgs false
/-- A grammar that is made, in a world that is else as U was. -/
structure GI (U W:World) (pb:Nat) (cs:Array Value) (no:List Nat) (l:List Rw):Prop where
 low:Below U.heap.size U W
 ge:U.heap.size≤pb
 lt:pb < W.heap.size
 pl:W.heap[pb]?=some (.cells cs 74 (0,0))
 rows:RwL W U.heap.size (pb::no) l
 nol:∀ b ∈ no,U.heap.size≤b∧b < W.heap.size
section
variable {U W W':World} {pb:Nat} {cs:Array Value} {no:List Nat} {l l1 l2:List Rw} {r r':Rw}
theorem GI.below (h:GI U W pb cs no l) (k:Below W.heap.size W W'):GI U W' pb cs no l :=
 ⟨h.low.trans (k.mono h.low.size),h.ge,Nat.lt_of_lt_of_le h.lt k.size,(k.block _ h.lt).trans h.pl,h.rows.below k,fun b hb=>⟨(h.nol b hb).1,Nat.lt_of_lt_of_le (h.nol b hb).2 k.size⟩⟩
theorem GI.alloc (h:GI U W pb cs no l) (o:Obj):GI U (W.alloc o) pb cs no l:=h.below ((Below.refl _ _).alloc (Nat.le_refl _) o)
theorem GI.nos (h:GI U W pb cs no l):∀ b ∈ pb::no,b < W.heap.size:=by
 intro b hb
 rcases List.mem_cons.1 hb with rfl | hb
 ·exact h.lt
 ·exact (h.nol b hb).2
theorem GI.app {g:Nat} (h:GI U W pb cs no (l1++r::l2)) (hg:W.grownBy W' r.v.ownBlock) (ho:r'.own W' U.heap.size) (hv:r'.v.ownBlock=some g) (hat:r.v.ownBlock=some g∨g=W.heap.size):GI U W' pb cs no (l1++r'::l2):=by
 have hr:r ∈ l1++r::l2:=by simp
 refine ⟨h.low.trans (below_own (h.rows.own r hr) h.low.size hg),h.ge,Nat.lt_of_lt_of_le h.lt hg.size,(h.rows.grown_block hg List.mem_cons_self h.lt).trans h.pl,h.rows.app h.nos hg ho hv hat,fun b hb=>⟨(h.nol b hb).1,Nat.lt_of_lt_of_le (h.nol b hb).2 hg.size⟩⟩
theorem GI.more (h:GI U W pb cs no l) (o:Obj):GI U (W.alloc o) pb cs (W.heap.size::no) l:=by
 have ha:=h.alloc o
 have hm:=h.rows.more
 refine ⟨ha.low,ha.ge,ha.lt,ha.pl,?_,?_⟩
 ·refine (hm.alloc o).sub ?_
  intro b hb
  simp only [List.mem_cons] at hb ⊢
  rcases hb with h1 | h1 | h1
  ·exact .inr (.inl h1)
  ·exact .inl h1
  ·exact .inr (.inr h1)
 ·intro b hb
  rcases List.mem_cons.1 hb with rfl | hb
  ·exact ⟨h.low.size,by simp⟩
  ·exact ha.nol b hb
theorem GI.sub {no':List Nat} (h:GI U W pb cs no l) (hs:∀ b ∈ no',b ∈ no):GI U W pb cs no' l :=
 ⟨h.low,h.ge,h.lt,h.pl,h.rows.sub (fun b hb=>by
  rcases List.mem_cons.1 hb with rfl | hb
  ·exact List.mem_cons_self
  ·exact List.mem_cons_of_mem _ (hs b hb)),fun b hb=>h.nol b (hs b hb)⟩
theorem GI.setP (h:GI U W pb cs no l) (j:Nat) (v:Value):GI U (W.setCell ⟨pb,j,none⟩ v) pb (cs.setIfInBounds j v) no l:=by
 have k:=(Upd.refl pb W).setCell ⟨pb,j,none⟩ rfl v
 exact ⟨h.low.trans (k.below h.ge h.low.size),h.ge,Nat.lt_of_lt_of_le h.lt k.size,heap_setCell_same _ _ _ _ _ _ h.pl,h.rows.upd k List.mem_cons_self,fun b hb=>⟨(h.nol b hb).1,Nat.lt_of_lt_of_le (h.nol b hb).2 k.size⟩⟩
theorem GI.setO (h:GI U W pb cs no l) {b:Nat} (hb:b ∈ no) (hne:b≠pb) (j:Nat) (v:Value):GI U (W.setCell ⟨b,j,none⟩ v) pb cs no l:=by
 have k:=(Upd.refl b W).setCell ⟨b,j,none⟩ rfl v
 exact ⟨h.low.trans (k.below (h.nol b hb).1 h.low.size),h.ge,Nat.lt_of_lt_of_le h.lt k.size,(k.block _ h.lt (Ne.symm hne)).trans h.pl,h.rows.upd k (List.mem_cons_of_mem _ hb),fun c hc=>⟨(h.nol c hc).1,Nat.lt_of_lt_of_le (h.nol c hc).2 k.size⟩⟩
theorem GI.perm (h:GI U W pb cs no l) (p:l.Perm l1):GI U W pb cs no l1:=⟨h.low,h.ge,h.lt,h.pl,h.rows.perm p,h.nol⟩
theorem GI.zero (h:GI U W pb cs no l) (e:TypeId) (size:Nat):GI U W pb cs no (⟨e,size,.slice none 0 0,0,[]⟩::l):=⟨h.low,h.ge,h.lt,h.pl,h.rows.zero e size,h.nol⟩
theorem GI.made (h:GI U W pb cs no l) (e:TypeId) (size n:Nat) (c:Array Value) (hs:c.size=n*size) (hn:n≤maxLen):GI U (W.alloc (.cells c e)) pb cs no (⟨e,size,.slice (some ⟨W.heap.size,0,none⟩) n n,n,c.toList⟩::l) :=
 ⟨(h.alloc _).low,h.ge,(h.alloc _).lt,(h.alloc _).pl,h.rows.made h.low.size h.nos e size n c hs hn,(h.alloc _).nol⟩
theorem GI.own (h:GI U W pb cs no l) (hr:r ∈ l):W.ownsRow U.heap.size r.e r.size r.v r.n r.xs:=h.rows.own r hr
theorem GI.blk {b:Nat} (h:GI U W pb cs no l) (hb:b < U.heap.size):W.heap[b]?=U.heap[b]?:=h.low.block b hb
end
theorem GI.c {U W:World} {pb:Nat} {a b c d e:Value} {no:List Nat} {l:List Rw} (h:GI U W pb #[a,b,c,d,e] no l) :
  W.cell? ⟨pb,0,none⟩=some a∧W.cell? ⟨pb,1,none⟩=some b∧W.cell? ⟨pb,2,none⟩=some c∧W.cell? ⟨pb,3,none⟩=some d∧W.cell? ⟨pb,4,none⟩=some e∧∀ j,W.frozen? ⟨pb,j,none⟩=false:=by
 refine ⟨?_,?_,?_,?_,?_,fun j=>frozen_of_row _ _ _ _ _ h.pl⟩
 all_goals (rw [cell_of_row _ _ _ _ _ _ h.pl]; rfl)
theorem GI.p0 {U W:World} {pb:Nat} {a b c d e:Value} {no:List Nat} {l:List Rw} (h:GI U W pb #[a,b,c,d,e] no l) (v:Value):GI U (W.setCell ⟨pb,0,none⟩ v) pb #[v,b,c,d,e] no l:=h.setP 0 v
theorem GI.p1 {U W:World} {pb:Nat} {a b c d e:Value} {no:List Nat} {l:List Rw} (h:GI U W pb #[a,b,c,d,e] no l) (v:Value):GI U (W.setCell ⟨pb,1,none⟩ v) pb #[a,v,c,d,e] no l:=h.setP 1 v
theorem GI.p2 {U W:World} {pb:Nat} {a b c d e:Value} {no:List Nat} {l:List Rw} (h:GI U W pb #[a,b,c,d,e] no l) (v:Value):GI U (W.setCell ⟨pb,2,none⟩ v) pb #[a,b,v,d,e] no l:=h.setP 2 v
theorem GI.p3 {U W:World} {pb:Nat} {a b c d e:Value} {no:List Nat} {l:List Rw} (h:GI U W pb #[a,b,c,d,e] no l) (v:Value):GI U (W.setCell ⟨pb,3,none⟩ v) pb #[a,b,c,v,e] no l:=h.setP 3 v
theorem GI.p4 {U W:World} {pb:Nat} {a b c d e:Value} {no:List Nat} {l:List Rw} (h:GI U W pb #[a,b,c,d,e] no l) (v:Value):GI U (W.setCell ⟨pb,4,none⟩ v) pb #[a,b,c,d,v] no l:=h.setP 4 v
/-- One is appended to a row of the grammar. -/
theorem list_app_gi {P:Program} {w:World} {ops:Array Oper} {rest:List Oper} {o:Oper} {a:Act} {Q:Exit→Act→World→Prop} (hgd:o.guard=none) (s x:Operand) (t:TypeId)
  (ho:o.op=.call { callee:=.builtin .append,args:=#[s,x],argTypes:=#[t,t] }) (bytes:Nat) {U:World} {pb:Nat} {cs:Array Value} {no:List Nat} (l1:List Rw) (r:Rw) (l2:List Rw) (E:Elt P t r.e r.size bytes) (hs:a.eval s=r.v)
  (h:GI U w pb cs no (l1++r::l2)) (g0 c0:Nat) (hx:a.eval x=.slice (some ⟨g0,0,none⟩) 1 c0) (news:Array Value) (hn:w.heap[g0]?=some (.cells news r.e (0,0))) (hl:news.size=r.size) (h1:∀ u ∈ news.toList,u.oneCell'=true)
  (h63:r.n≤100000) (hb:bytes≤100)
  (hK:∀ g cap w',GI U w' pb cs no (l1++(⟨r.e,r.size,.slice (some ⟨g,0,none⟩) (r.n+1) cap,r.n+1,r.xs++news.toList⟩:Rw)::l2)→(∀ b ∈ no,w'.heap[b]?=w.heap[b]?)→wpList P ops Q rest (a.put o.dst (.slice (some ⟨g,0,none⟩) (r.n+1) cap)) w') :
  wpList P ops Q (o::rest) a w:=by
 have hr:r ∈ l1++r::l2:=by simp
 refine list_append_one hgd s x t ho r.e U.heap.size r.size bytes E r.v r.n r.xs hs (h.own hr) ⟨g0,0,none⟩ c0 news.toList hx (by simpa using hl) (World.news_of_block hn) h1 (by unfold maxLen; omega) ?_ h.low.size fun g cap w' h2 h3 h4 h5 h6=>hK g cap w' (h.app h3 h2 rfl h6) fun b hb=>h.rows.grown_block h3 (List.mem_cons_of_mem _ hb) (h.nol b hb).2
 have h2:(r.n+r.n / 4+512)*bytes≤200000*100:=Nat.mul_le_mul (by omega) hb
 omega
theorem list_gpp_S {P:Program} {w:World} {ops:Array Oper} {rest:List Oper} {o:Oper} {a:Act} {Q:Exit→Act→World→Prop} (hgd:o.guard=none) (s x:Operand) (t:TypeId)
  (ho:o.op=.call { callee:=.builtin .append,args:=#[s,x],argTypes:=#[t,t] }) {U:World} {pb:Nat} {cs:Array Value} {no:List Nat} (l1:List Rw) (v:Value) (n:Nat) (l:List ByteArray) (l2:List Rw) (E:Elt P t 9 1 16) (hs:a.eval s=v)
  (h:GI U w pb cs no (l1++rS v n l::l2)) (g0 c0:Nat) (hx:a.eval x=.slice (some ⟨g0,0,none⟩) 1 c0) (y:ByteArray) (hn:w.heap[g0]?=some (.cells #[.string y] 9 (0,0))) (h63:n≤100000)
  (hK:∀ g cap w',GI U w' pb cs no (l1++rS (.slice (some ⟨g,0,none⟩) (n+1) cap) (n+1) (l++[y])::l2)→(∀ b ∈ no,w'.heap[b]?=w.heap[b]?)→wpList P ops Q rest (a.put o.dst (.slice (some ⟨g,0,none⟩) (n+1) cap)) w') :
  wpList P ops Q (o::rest) a w :=
 list_app_gi hgd s x t ho 16 l1 (rS v n l) l2 E hs h g0 c0 hx #[.string y] hn rfl (by simp [Value.oneCell']) h63 (by omega) fun g cap w' h1 h2=>hK g cap w' (by
  have e:(⟨(rS v n l).e,(rS v n l).size,.slice (some ⟨g,0,none⟩) ((rS v n l).n+1) cap,(rS v n l).n+1,(rS v n l).xs++(#[Value.string y]:Array Value).toList⟩:Rw)=rS (.slice (some ⟨g,0,none⟩) (n+1) cap) (n+1) (l++[y]):=by
   show (⟨9,1,_,_,strV l++(#[Value.string y]:Array Value).toList⟩:Rw)=_
   rw [strV_snoc']; rfl
  rw [e] at h1; exact h1) h2
theorem GI.drop {U W:World} {pb:Nat} {cs:Array Value} {no:List Nat} {r:Rw} {l:List Rw} (h:GI U W pb cs no (r::l)):GI U W pb cs no l:=⟨h.low,h.ge,h.lt,h.pl,h.rows.tail,h.nol⟩
def rT (v:Value) (n:Nat) (l:List Rd.Tok):Rw:=⟨111,4,v,n,tkC l⟩
def rL (v:Value) (n:Nat) (l:List Rd.Lev) (ns:List Value):Rw:=⟨107,2,v,n,lvC l ns⟩
def rR (v:Value) (n:Nat) (l:List Rd.Rul) (ns:List Value):Rw:=⟨77,4,v,n,rlC l ns⟩
/-- The rows of the levels' names, of the rules' right sides. -/
def rY (l:List Rd.Lev) (ns:List Value):List Rw:=(l.zip ns).map fun q=>rS q.2 q.1.names.length q.1.names
def rZ (l:List Rd.Rul) (ns:List Value):List Rw:=(l.zip ns).map fun q=>rS q.2 q.1.right.length q.1.right
theorem rY_snoc (rs:List Rd.Lev) (ns:List Value) (x:Rd.Lev) (v:Value) (h:ns.length=rs.length):rY (rs++[x]) (ns++[v])=rY rs ns++[rS v x.names.length x.names]:=by simp [rY,List.zip_append h.symm]
theorem rZ_snoc (rs:List Rd.Rul) (ns:List Value) (x:Rd.Rul) (v:Value) (h:ns.length=rs.length):rZ (rs++[x]) (ns++[v])=rZ rs ns++[rS v x.right.length x.right]:=by simp [rZ,List.zip_append h.symm]
/-- A level, a rule is appended. -/
theorem list_gpp_L {P:Program} {w:World} {ops:Array Oper} {rest:List Oper} {o:Oper} {a:Act} {Q:Exit→Act→World→Prop} (hgd:o.guard=none) (s x:Operand) (t:TypeId)
  (ho:o.op=.call { callee:=.builtin .append,args:=#[s,x],argTypes:=#[t,t] }) {U:World} {pb:Nat} {cs:Array Value} {no:List Nat} (l1:List Rw) (v:Value) (n:Nat) (l:List Rd.Lev) (ns:List Value) (l2:List Rw) (hnl:ns.length=l.length) (E:Elt P t 107 2 32) (hs:a.eval s=v)
  (h:GI U w pb cs no (l1++rL v n l ns::l2)) (g0 c0:Nat) (hx:a.eval x=.slice (some ⟨g0,0,none⟩) 1 c0) (y:Rd.Lev) (yv:Value) (hy:yv.oneCell'=true) (hn:w.heap[g0]?=some (.cells #[.int .i64 y.assoc,yv] 107 (0,0))) (h63:n≤100000)
  (hK:∀ g cap w',GI U w' pb cs no (l1++rL (.slice (some ⟨g,0,none⟩) (n+1) cap) (n+1) (l++[y]) (ns++[yv])::l2)→(∀ b ∈ no,w'.heap[b]?=w.heap[b]?)→wpList P ops Q rest (a.put o.dst (.slice (some ⟨g,0,none⟩) (n+1) cap)) w') :
  wpList P ops Q (o::rest) a w :=
 list_app_gi hgd s x t ho 32 l1 (rL v n l ns) l2 E hs h g0 c0 hx #[.int .i64 y.assoc,yv] hn rfl (by simp [hy]; simp [Value.oneCell']) h63 (by omega) fun g cap w' h1 h2=>hK g cap w' (by
  have e:(⟨(rL v n l ns).e,(rL v n l ns).size,.slice (some ⟨g,0,none⟩) ((rL v n l ns).n+1) cap,(rL v n l ns).n+1,(rL v n l ns).xs++(#[Value.int .i64 y.assoc,yv]:Array Value).toList⟩:Rw)=rL (.slice (some ⟨g,0,none⟩) (n+1) cap) (n+1) (l++[y]) (ns++[yv]):=by
   unfold rL
   rw [lvC_snoc _ _ _ _ hnl]
  rw [e] at h1; exact h1) h2
theorem list_gpp_R {P:Program} {w:World} {ops:Array Oper} {rest:List Oper} {o:Oper} {a:Act} {Q:Exit→Act→World→Prop} (hgd:o.guard=none) (s x:Operand) (t:TypeId)
  (ho:o.op=.call { callee:=.builtin .append,args:=#[s,x],argTypes:=#[t,t] }) {U:World} {pb:Nat} {cs:Array Value} {no:List Nat} (l1:List Rw) (v:Value) (n:Nat) (l:List Rd.Rul) (ns:List Value) (l2:List Rw) (hnl:ns.length=l.length) (E:Elt P t 77 4 72) (hs:a.eval s=v)
  (h:GI U w pb cs no (l1++rR v n l ns::l2)) (g0 c0:Nat) (hx:a.eval x=.slice (some ⟨g0,0,none⟩) 1 c0) (y:Rd.Rul) (yv:Value) (hy:yv.oneCell'=true) (hn:w.heap[g0]?=some (.cells #[.string y.left,yv,.string y.prec,.string y.action] 77 (0,0))) (h63:n≤100000)
  (hK:∀ g cap w',GI U w' pb cs no (l1++rR (.slice (some ⟨g,0,none⟩) (n+1) cap) (n+1) (l++[y]) (ns++[yv])::l2)→(∀ b ∈ no,w'.heap[b]?=w.heap[b]?)→wpList P ops Q rest (a.put o.dst (.slice (some ⟨g,0,none⟩) (n+1) cap)) w') :
  wpList P ops Q (o::rest) a w :=
 list_app_gi hgd s x t ho 72 l1 (rR v n l ns) l2 E hs h g0 c0 hx #[.string y.left,yv,.string y.prec,.string y.action] hn rfl (by simp [hy]; simp [Value.oneCell']) h63 (by omega) fun g cap w' h1 h2=>hK g cap w' (by
  have e:(⟨(rR v n l ns).e,(rR v n l ns).size,.slice (some ⟨g,0,none⟩) ((rR v n l ns).n+1) cap,(rR v n l ns).n+1,(rR v n l ns).xs++(#[Value.string y.left,yv,.string y.prec,.string y.action]:Array Value).toList⟩:Rw)=rR (.slice (some ⟨g,0,none⟩) (n+1) cap) (n+1) (l++[y]) (ns++[yv]):=by
   unfold rR
   rw [rlC_snoc _ _ _ _ hnl]
  rw [e] at h1; exact h1) h2
theorem list_gpp_T {P:Program} {w:World} {ops:Array Oper} {rest:List Oper} {o:Oper} {a:Act} {Q:Exit→Act→World→Prop} (hgd:o.guard=none) (s x:Operand) (t:TypeId)
  (ho:o.op=.call { callee:=.builtin .append,args:=#[s,x],argTypes:=#[t,t] }) {U:World} {pb:Nat} {cs:Array Value} {no:List Nat} (l1:List Rw) (v:Value) (n:Nat) (l:List Rd.Tok) (l2:List Rw) (E:Elt P t 111 4 56) (hs:a.eval s=v)
  (h:GI U w pb cs no (l1++rT v n l::l2)) (g0 c0:Nat) (hx:a.eval x=.slice (some ⟨g0,0,none⟩) 1 c0) (y:Rd.Tok) (hn:w.heap[g0]?=some (.cells #[.string y.name,.string y.pat.t,.string y.pat.s,.bool y.pat.m] 111 (0,0))) (h63:n≤100000)
  (hK:∀ g cap w',GI U w' pb cs no (l1++rT (.slice (some ⟨g,0,none⟩) (n+1) cap) (n+1) (l++[y])::l2)→(∀ b ∈ no,w'.heap[b]?=w.heap[b]?)→wpList P ops Q rest (a.put o.dst (.slice (some ⟨g,0,none⟩) (n+1) cap)) w') :
  wpList P ops Q (o::rest) a w :=
 list_app_gi hgd s x t ho 56 l1 (rT v n l) l2 E hs h g0 c0 hx #[.string y.name,.string y.pat.t,.string y.pat.s,.bool y.pat.m] hn rfl (by simp [Value.oneCell']) h63 (by omega) fun g cap w' h1 h2=>hK g cap w' (by
  have e:(⟨(rT v n l).e,(rT v n l).size,.slice (some ⟨g,0,none⟩) ((rT v n l).n+1) cap,(rT v n l).n+1,(rT v n l).xs++(#[Value.string y.name,.string y.pat.t,.string y.pat.s,.bool y.pat.m]:Array Value).toList⟩:Rw)=rT (.slice (some ⟨g,0,none⟩) (n+1) cap) (n+1) (l++[y]):=by
   unfold rT
   rw [tkC_snoc]
  rw [e] at h1; exact h1) h2
/-- A row that was made apart. -/
theorem RwL.addNew {w0 w:World} {B:Nat} {no:List Nat} {l:List Rw} {r:Rw} (h:RwL w0 B no l) (k:Below w0.heap.size w0 w) (ho:r.own w B) (hg:∀ g,r.v.ownBlock=some g→w0.heap.size≤g) (hno:∀ b ∈ no,b < w0.heap.size):RwL w B no (r::l):=by
 have hb:=h.below k
 refine ⟨?_,?_,?_⟩
 ·intro x hx
  rcases List.mem_cons.1 hx with rfl | hx
  ·exact ho
  ·exact hb.own x hx
 ·intro x hx
  rcases List.mem_cons.1 hx with rfl | hx
  ·intro g hgg hm
   have:=hg g hgg
   have:=hno g hm
   omega
  ·exact hb.no x hx
 ·refine List.pairwise_cons.2 ⟨fun s hs g h1 h2=>?_,hb.ap⟩
  have:=hg g h1
  have:=(owns_lt (h.own s hs) g h2).2
  omega
theorem GI.addNew {U w0 w:World} {pb:Nat} {cs:Array Value} {no:List Nat} {l:List Rw} {r:Rw} (h:GI U w0 pb cs no l) (k:Below w0.heap.size w0 w) (ho:r.own w U.heap.size) (hg:∀ g,r.v.ownBlock=some g→w0.heap.size≤g):GI U w pb cs no (r::l):=by
 have hb:=h.below k
 exact ⟨hb.low,hb.ge,hb.lt,hb.pl,h.rows.addNew k ho hg h.nos,hb.nol⟩
/-- A cell of a row is put anew. -/
theorem own_setCell {w:World} {B:Nat} {e:TypeId} {size n g cap j:Nat} {xs:List Value} (u:Value) (h:w.ownsRow B e size (.slice (some ⟨g,0,none⟩) n cap) n xs) (hj:j < n*size):(w.setCell ⟨g,j,none⟩ u).ownsRow B e size (.slice (some ⟨g,0,none⟩) n cap) n (xs.set j u):=by
 obtain ⟨h1,h2⟩:=h
 refine ⟨by simpa using h1,?_⟩
 rcases h2 with ⟨h2,_⟩ | ⟨g',cap',cur,hv,hbg,hg,hnc,hcm,hcs,htake⟩
 ·cases h2
 ·cases hv
  refine .inr ⟨g,cap,cur.setIfInBounds j u,rfl,hbg,heap_setCell_same _ _ _ _ _ _ hg,hnc,hcm,by simpa using hcs,?_⟩
  rw [← htake,Array.toList_setIfInBounds,List.take_set]
theorem GI.setRow {U W:World} {pb:Nat} {cs:Array Value} {no:List Nat} {l:List Rw} {e:TypeId} {size n g cap j:Nat} {xs:List Value} (u:Value) (h:GI U W pb cs no (⟨e,size,.slice (some ⟨g,0,none⟩) n cap,n,xs⟩::l)) (hj:j < n*size) :
  GI U (W.setCell ⟨g,j,none⟩ u) pb cs no (⟨e,size,.slice (some ⟨g,0,none⟩) n cap,n,xs.set j u⟩::l):=by
 have ho:=h.rows.own _ List.mem_cons_self
 have hgb:=owns_lt ho g rfl
 have k:=(Upd.refl g W).setCell ⟨g,j,none⟩ rfl u
 have hno:=h.rows.no _ List.mem_cons_self g rfl
 have hpb:pb≠g:=fun e=>hno (by simp [e])
 have hap:=List.pairwise_cons.1 h.rows.ap
 refine ⟨h.low.trans (k.below hgb.1 h.low.size),h.ge,Nat.lt_of_lt_of_le h.lt k.size,(k.block _ h.lt hpb).trans h.pl,⟨?_,?_,?_⟩,fun b hb=>⟨(h.nol b hb).1,Nat.lt_of_lt_of_le (h.nol b hb).2 k.size⟩⟩
 ·intro x hx
  rcases List.mem_cons.1 hx with rfl | hx
  ·exact own_setCell u ho hj
  ·exact own_upd (h.rows.own x (List.mem_cons_of_mem _ hx)) k (fun g' hg' e=>hap.1 x hx g rfl (by rw [← e]; exact hg'))
 ·intro x hx
  rcases List.mem_cons.1 hx with rfl | hx
  ·exact h.rows.no ⟨e,size,.slice (some ⟨g,0,none⟩) n cap,n,xs⟩ List.mem_cons_self
  ·exact h.rows.no x (List.mem_cons_of_mem _ hx)
 ·exact List.pairwise_cons.2 ⟨hap.1,hap.2⟩
/-- A level's names are put anew. -/
theorem lvC_set:∀ (l:List Rd.Lev) (ns:List Value) (i:Nat) (f:Rd.Lev→Rd.Lev) (v:Value),(∀ x,(f x).assoc=x.assoc)→i < l.length→i < ns.length→lvC (l.modify i f) (ns.set i v)=(lvC l ns).set (i*2+1) v
 | [],_,i,_,_,_,h,_=>absurd h (Nat.not_lt_zero _)
 | _::_,[],i,_,_,_,_,h=>absurd h (Nat.not_lt_zero _)
 | m::l,n::ns,0,f,v,hf,_,_=>by simp [lvC,hf]
 | m::l,n::ns,i+1,f,v,hf,h,h'=>by
  have ih:=lvC_set l ns i f v hf (by simpa using h) (by simpa using h')
  have e:∀ (m:Rd.Lev) (n:Value) (l:List Rd.Lev) (ns:List Value),lvC (m::l) (n::ns)=.int .i64 m.assoc::n::lvC l ns:=fun m n l ns=>by simp [lvC]
  rw [List.modify_succ_cons,List.set_cons_succ,e,e,ih,show (i+1)*2+1=(i*2+1)+1+1 by omega]
  simp
theorem rY_split:∀ (l:List Rd.Lev) (ns:List Value) (i:Nat) (f:Rd.Lev→Rd.Lev) (v:Value) (h:i < l.length) (h':i < ns.length),∃ l1 l2,rY l ns=l1++rS ns[i] l[i].names.length l[i].names::l2∧rY (l.modify i f) (ns.set i v)=l1++rS v (f l[i]).names.length (f l[i]).names::l2
 | [],_,i,_,_,h,_=>absurd h (Nat.not_lt_zero _)
 | _::_,[],i,_,_,_,h=>absurd h (Nat.not_lt_zero _)
 | m::l,n::ns,0,f,v,_,_=>⟨[],rY l ns,by simp [rY],by simp [rY]⟩
 | m::l,n::ns,i+1,f,v,h,h'=>by
  obtain ⟨l1,l2,e1,e2⟩:=rY_split l ns i f v (by simpa using h) (by simpa using h')
  have e:∀ (m:Rd.Lev) (n:Value) (l:List Rd.Lev) (ns:List Value),rY (m::l) (n::ns)=rS n m.names.length m.names::rY l ns:=fun m n l ns=>by simp [rY]
  exact ⟨rS n m.names.length m.names::l1,l2,by rw [e,e1]; simp,by rw [List.modify_succ_cons,List.set_cons_succ,e,e2]; simp⟩
/-- The grammar's value. -/
theorem gmV_of {w:World} {B:Nat} {T L R:Value} {n1 n2 n3:Nat} {ns ms:List Value} {g:Rd.Gr} (h:∀ r ∈ ([rT T n1 g.toks,rL L n2 g.levs ns,rR R n3 g.rules ms]++rY g.levs ns++rZ g.rules ms),r.own w B)
  (h0:g.skips=[]) (h1:g.toks.length=n1) (h2:g.levs.length=n2) (h3:g.rules.length=n3) (hns:ns.length=g.levs.length) (hms:ms.length=g.rules.length):GrV w (.agg #[T,.slice none 0 0,L,.string g.start,R]) g:=by
 subst h1 h2 h3
 have hG:GM w B g T (.slice none 0 0) L R:=by
  refine ⟨h (rT T g.toks.length g.toks) (by simp),?_,⟨ns,hns,h (rL L g.levs.length g.levs ns) (by simp),fun i hi hi'=>?_⟩,⟨ms,hms,h (rR R g.rules.length g.rules ms) (by simp),fun i hi hi'=>?_⟩⟩
  ·rw [h0]; exact World.ownsRow_nil _ _ _ _
  ·have hz:i < (g.levs.zip ns).length:=by simp; omega
   have hm:rS ns[i] g.levs[i].names.length g.levs[i].names ∈ rY g.levs ns:=by
    unfold rY
    exact List.mem_map.2 ⟨(g.levs.zip ns)[i],List.getElem_mem hz,by simp⟩
   exact NsM.of_owns (h (rS ns[i] g.levs[i].names.length g.levs[i].names) (by simp [hm])) rfl
  ·have hz:i < (g.rules.zip ms).length:=by simp; omega
   have hm:rS ms[i] g.rules[i].right.length g.rules[i].right ∈ rZ g.rules ms:=by
    unfold rZ
    exact List.mem_map.2 ⟨(g.rules.zip ms)[i],List.getElem_mem hz,by simp⟩
   exact NsM.of_owns (h (rS ms[i] g.rules[i].right.length g.rules[i].right) (by simp [hm])) rfl
 obtain ⟨ta,tc,rfl,_⟩:=RowV.of_owns hG.t
 obtain ⟨ns',hn',hl,_⟩:=hG.l
 obtain ⟨la,lc,rfl,_⟩:=RowV.of_owns hl
 obtain ⟨ms',hm',hr,_⟩:=hG.r
 obtain ⟨ra,rc,rfl,_⟩:=RowV.of_owns hr
 refine ⟨ta,tc,none,0,la,lc,ra,rc,by rw [h0]; rfl,hG.tkV,?_,hG.levV,hG.rlV⟩
 intro i hi
 rw [h0] at hi
 exact absurd hi (Nat.not_lt_zero _)
end Go.Proofs.YtjbggogbnckllaaDoor
end
section
set_option maxRecDepth 100000
namespace Go.Proofs.YtjbggogbnckllaaDoor
open Go.RowKit
set_option linter.unusedVariables false
set_option linter.unusedSimpArgs false
namespace Pl
theorem nm_ch (c:Nat) (h:Lx.letter ((UInt8.ofNat c).toNat:Nat)=true):Pl.name (Pl.ch c)=true:=by
 have hz:(ch c).size=1:=rfl
 unfold name nm
 rw [hz]
 have:allN 1 (fun i=>Lx.letter (Lx.at_ (ch c) i)||(i != 0&&Lx.digit (Lx.at_ (ch c) i)))=true:=by
  rw [allN_true]
  intro i hi
  obtain rfl:i=0:=by omega
  have e:Lx.at_ (ch c) 0=((UInt8.ofNat c).toNat:Nat):=Lx.at_of (s:=ch c) (i:=0) (by rw [hz]; omega)
  rw [e,h]; rfl
 rw [this]; rfl
theorem name_tok (i:Nat) (h:i < 5):name (tokS i)=true:=by
 have:i=0∨i=1∨i=2∨i=3∨i=4:=by omega
 rcases this with rfl | rfl | rfl | rfl | rfl<;>exact nm_ch _ (by decide)
theorem name_lev (i:Nat) (h:i < 5):name (levS i)=true:=by
 have:i=0∨i=1∨i=2∨i=3∨i=4:=by omega
 rcases this with rfl | rfl | rfl | rfl | rfl<;>exact nm_ch _ (by decide)
theorem name_var (i:Nat) (h:i < 4):name (varS i)=true:=by
 have:i=0∨i=1∨i=2∨i=3:=by omega
 rcases this with rfl | rfl | rfl | rfl<;>exact nm_ch _ (by decide)
/-- The number of a name of one byte. -/
theorem ch_inj {a b:Nat} (ha:a < 256) (hb:b < 256) (h:ch a=ch b):a=b:=by
 have h1:(ch a).data=(ch b).data:=by rw [h]
 have h2:(#[UInt8.ofNat a]:Array UInt8)=#[UInt8.ofNat b]:=h1
 have h3:UInt8.ofNat a=UInt8.ofNat b:=by simpa using h2
 have h4:(UInt8.ofNat a).toNat=(UInt8.ofNat b).toNat:=by rw [h3]
 simpa [Nat.mod_eq_of_lt ha,Nat.mod_eq_of_lt hb] using h4
def vc (i:Nat):Nat:=(#[83,84,85,86]:Array Nat).getD i 0
theorem vc_of (i:Nat) (h:i < 4):vc i=83+i:=by
 have:i=0∨i=1∨i=2∨i=3:=by omega
 rcases this with rfl | rfl | rfl | rfl<;>rfl
theorem varS_of (i:Nat) (h:i < 4):varS i=ch (83+i):=by unfold varS; rw [← vc_of i h]; rfl
theorem tok_inj {i j:Nat} (hi:i < 5) (hj:j < 5) (h:tokS i=tokS j):i=j:=by have:=ch_inj (by omega) (by omega) h; omega
theorem lev_inj {i j:Nat} (hi:i < 5) (hj:j < 5) (h:levS i=levS j):i=j:=by have:=ch_inj (by omega) (by omega) h; omega
theorem tok_var {i j:Nat} (hi:i < 5) (hj:j < 4):tokS i≠varS j:=by
 rw [varS_of j hj]
 intro h
 have:=ch_inj (by omega) (by omega) h; omega
theorem tok_lev {i j:Nat} (hi:i < 5) (hj:j < 5):tokS i≠levS j:=by
 intro h
 have:=ch_inj (by omega) (by omega) h; omega
theorem once_of {l:List ByteArray} (h1:∀ x ∈ l,name x=true) (h2:l.Nodup):once l=true:=by
 refine once_yes fun i hi=>⟨h1 _ (List.getElem_mem hi),fun k hk e=>?_⟩
 exact (List.pairwise_iff_getElem.1 h2) k i (by omega) hi hk e
theorem putLev_len (ls:List Rd.Lev) (k:Nat) (nm:ByteArray):(putLev ls k nm).length=ls.length:=by unfold putLev; split<;>simp
theorem smLevs_len (s:Sm):∀ k,(smLevs s k).length=s.assocs.length
 | 0=>by simp [smLevs,smLevs0]
 | k+1=>by
  rw [smLevs]
  split
  ·rw [putLev_len,smLevs_len s k]
  ·exact smLevs_len s k
theorem flat_modify:∀ (ls:List Rd.Lev) (p:Nat) (nm:ByteArray),p < ls.length→List.Perm ((ls.modify p (fun l=>⟨l.assoc,l.names++[nm]⟩)).flatMap (·.names)) (nm::ls.flatMap (·.names))
 | [],p,_,h=>absurd h (Nat.not_lt_zero _)
 | x::ls,0,nm,_=>by
  simp only [List.modify_zero_cons,List.flatMap_cons]
  rw [List.append_assoc]
  exact List.perm_middle
 | x::ls,p+1,nm,h=>by
  simp only [List.modify_succ_cons,List.flatMap_cons]
  exact ((flat_modify ls p nm (by simpa using h)).append_left x.names).trans List.perm_middle
/-- The levels' names: each once, levels' own ones and tokens. -/
theorem smLevs_flat (s:Sm) (ha:s.assocs.length≤5):∀ k,k≤5→((smLevs s k).flatMap (·.names)).Nodup∧(∀ x ∈ (smLevs s k).flatMap (·.names),(∃ i,i < s.assocs.length∧x=levS i)∨∃ j,j < k∧x=tokS j) ∧
  ∀ i,i < s.assocs.length→∃ l,(smLevs s k)[i]?=some l∧levS i ∈ l.names∧1≤l.assoc∧l.assoc≤3
 | 0,_=>by
  have e:(smLevs s 0).flatMap (·.names)=(List.range s.assocs.length).map levS:=by
   unfold smLevs smLevs0
   rw [List.flatMap_map]
   simp [List.flatMap_singleton']
   induction (List.range s.assocs.length) with
   | nil=>rfl
   | cons a l ih=>simp [List.flatMap_cons,ih]
  rw [e]
  refine ⟨?_,?_,?_⟩
  ·unfold List.Nodup
   rw [List.pairwise_iff_getElem]
   intro i j hi hj hij h
   simp only [List.length_map,List.length_range] at hi hj
   simp only [List.getElem_map,List.getElem_range] at h
   have:=lev_inj (by omega) (by omega) h
   omega
  ·intro x hx
   obtain ⟨i,hi,rfl⟩:=List.mem_map.1 hx
   exact .inl ⟨i,List.mem_range.1 hi,rfl⟩
  ·intro i hi
   refine ⟨⟨((s.assocs.getD i 0 % 3+1:Nat):Int),[levS i]⟩,?_,by simp,?_,?_⟩
   ·simp [smLevs,smLevs0,hi]
   ·show (1:Int)≤((s.assocs.getD i 0 % 3+1:Nat):Int); omega
   ·show ((s.assocs.getD i 0 % 3+1:Nat):Int)≤3; omega
 | k+1,hk=>by
  obtain ⟨h1,h2,h3⟩:=smLevs_flat s ha k (by omega)
  rw [smLevs]
  have keep:∀ x ∈ (smLevs s k).flatMap (·.names),(∃ i,i < s.assocs.length∧x=levS i)∨∃ j,j < k+1∧x=tokS j:=fun x hx=>by
   rcases h2 x hx with h | ⟨j,hj,e⟩
   ·exact .inl h
   ·exact .inr ⟨j,by omega,e⟩
  split
  ·unfold putLev
   split
   ·exact ⟨h1,keep,h3⟩
   ·rename_i hl hq
    have hp:s.levels.getD k 0 % (s.assocs.length+1) - 1 < (smLevs s k).length:=by
     rw [smLevs_len]; have:=Nat.mod_lt (s.levels.getD k 0) (show 0 < s.assocs.length+1 by omega); omega
    have hpm:=flat_modify (smLevs s k) _ (tokS k) hp
    refine ⟨?_,?_,?_⟩
    ·rw [hpm.nodup_iff,List.nodup_cons]
     refine ⟨fun hm=>?_,h1⟩
     rcases h2 _ hm with ⟨i,hi,e⟩ | ⟨j,hj,e⟩
     ·exact tok_lev (by omega) (by omega) e
     ·have:=tok_inj (by omega) (by omega) e; omega
    ·intro x hx
     rcases List.mem_cons.1 (hpm.mem_iff.1 hx) with rfl | hx
     ·exact .inr ⟨k,by omega,rfl⟩
     ·exact keep x hx
    ·intro i hi
     obtain ⟨l,e1,e2,e3,e4⟩:=h3 i hi
     rw [List.getElem?_modify]
     rw [e1]
     by_cases hip:s.levels.getD k 0 % (s.assocs.length+1) - 1=i
     ·exact ⟨⟨l.assoc,l.names++[tokS k]⟩,by simp only [if_pos hip]; rfl,by simp [e2],e3,e4⟩
     ·exact ⟨l,by simp only [if_neg hip]; rfl,e2,e3,e4⟩
  ·exact ⟨h1,keep,h3⟩
end Pl
end Go.Proofs.YtjbggogbnckllaaDoor
end
section
set_option maxRecDepth 100000
namespace Go.Proofs.YtjbggogbnckllaaDoor
open Go.RowKit
set_option linter.unusedVariables false
set_option linter.unusedSimpArgs false
namespace Pl
theorem nTok_le (s:Sm):nTok s≤5∧1≤nTok s:=by unfold nTok; omega
theorem nVar_le (s:Sm):nVar s≤4∧1≤nVar s:=by unfold nVar; omega
structure RulOK (s:Sm) (r:Rd.Rul):Prop where
 l:∃ j,j < nVar s∧r.left=varS j
 n:r.right.length≤8
 rt:∀ x ∈ r.right,(∃ j,j < nTok s∧x=tokS j)∨∃ j,j < nVar s∧x=varS j
 p:r.prec=Rd.E∨∃ i,i < s.assocs.length∧r.prec=levS i
 a:r.action=Rd.E
theorem smName_ok (s:Sm) (x:Nat):(∃ j,j < nTok s∧smName s x=tokS j)∨∃ j,j < nVar s∧smName s x=varS j:=by
 have ht:=nTok_le s
 have hv:=nVar_le s
 unfold smName
 simp only
 have hl:=Nat.mod_lt x (show 0 < nTok s+nVar s by omega)
 split
 ·exact .inr ⟨_,by omega,rfl⟩
 ·refine .inl ⟨x % (nTok s+nVar s),by omega,?_⟩
  rw [Nat.mod_eq_of_lt (by omega:x % (nTok s+nVar s) < 5)]
theorem smRule_ok (s:Sm) (hf:few s 20 8=true) (i:Nat):RulOK s (smRule s i):=by
 have hv:=nVar_le s
 have hr:((s.rights.getD i []).map (smName s)).length≤8:=by
  rw [List.length_map,List.getD_eq_getElem?_getD]
  by_cases hi:i < s.rights.length
  ·rw [List.getElem?_eq_getElem hi,Option.getD_some]
   unfold few at hf
   simp only [Bool.and_eq_true,decide_eq_true_eq,List.all_eq_true] at hf
   exact hf.2 _ (List.getElem_mem hi)
  ·rw [List.getElem?_eq_none (by omega)]; simp
 refine ⟨⟨_,Nat.mod_lt _ (by omega),rfl⟩,hr,?_,?_,rfl⟩
 ·intro x hx
  have hx':x ∈ (s.rights.getD i []).map (smName s):=hx
  obtain ⟨y,_,rfl⟩:=List.mem_map.1 hx'
  exact smName_ok s y
 ·show (if i < s.precs.length∧s.precs.getD i 0 % (s.assocs.length+1)≠0 then levS (s.precs.getD i 0 % (s.assocs.length+1) - 1) else Rd.E)=Rd.E∨_
  split
  ·rename_i h
   refine .inr ⟨s.precs.getD i 0 % (s.assocs.length+1) - 1,?_,?_⟩
   ·have:=Nat.mod_lt (s.precs.getD i 0) (show 0 < s.assocs.length+1 by omega); omega
   ·show (if i < s.precs.length∧s.precs.getD i 0 % (s.assocs.length+1)≠0 then levS (s.precs.getD i 0 % (s.assocs.length+1) - 1) else Rd.E)=_
    rw [if_pos h]
  ·exact .inl rfl
theorem addRule_cases (rs:List Rd.Rul) (v:Nat):(addRule rs v=rs∧∃ r ∈ rs,r.left=varS v)∨addRule rs v=rs++[⟨varS v,[],Rd.E,Rd.E⟩]:=by
 unfold addRule
 split
 ·rename_i h
  obtain ⟨r,hr,e⟩:=List.any_eq_true.1 h
  exact .inl ⟨rfl,r,hr,Lx.eqS_iff.1 e⟩
 ·exact .inr rfl
theorem smRules_ok (s:Sm) (hf:few s 20 8=true):∀ k,k≤nVar s→(∀ r ∈ smRules s k,RulOK s r)∧(smRules s k).length≤20+k∧∀ v,v < k→∃ r ∈ smRules s k,r.left=varS v
 | 0,_=>by
  refine ⟨?_,?_,fun v hv=>absurd hv (Nat.not_lt_zero _)⟩
  ·intro r hr
   obtain ⟨i,_,rfl⟩:=List.mem_map.1 hr
   exact smRule_ok s hf i
  ·unfold few at hf
   simp only [Bool.and_eq_true,decide_eq_true_eq] at hf
   simp [smRules,smRules0]; exact hf.1.1
 | k+1,hk=>by
  obtain ⟨h1,h2,h3⟩:=smRules_ok s hf k (by omega)
  rw [smRules]
  rcases addRule_cases (smRules s k) k with ⟨e,r,hr,hl⟩ | e
  ·rw [e]
   refine ⟨h1,by omega,fun v hv=>?_⟩
   by_cases hvk:v=k
   ·subst hvk; exact ⟨r,hr,hl⟩
   ·exact h3 v (by omega)
  ·rw [e]
   refine ⟨?_,by simp; omega,fun v hv=>?_⟩
   ·intro r hr
    rcases List.mem_append.1 hr with hr | hr
    ·exact h1 r hr
    ·have:r=⟨varS k,[],Rd.E,Rd.E⟩:=by simpa using hr
     subst this
     exact ⟨⟨k,by omega,rfl⟩,Nat.zero_le _,fun x hx=>(by cases hx),.inl rfl,rfl⟩
   ·by_cases hvk:v=k
    ·subst hvk; exact ⟨⟨varS v,[],Rd.E,Rd.E⟩,by simp,rfl⟩
    ·obtain ⟨r,hr,e⟩:=h3 v (by omega)
     exact ⟨r,by simp [hr],e⟩
theorem action_E:action Rd.E=true:=by decide
theorem name_S:name (ch 83)=true:=nm_ch _ (by decide)
theorem okPat_tok (i:Nat):okPat ⟨tokS i,Rd.E,false⟩=true:=by
 have:((tokS i).size != 0)=true:=rfl
 unfold okPat
 simp only [this,if_true]
 rfl
theorem name_of_rule {s:Sm} {x:ByteArray} (h:(∃ j,j < nTok s∧x=tokS j)∨∃ j,j < nVar s∧x=varS j):name x=true:=by
 have ht:=nTok_le s
 have hv:=nVar_le s
 rcases h with ⟨j,hj,rfl⟩ | ⟨j,hj,rfl⟩
 ·exact name_tok j (by omega)
 ·exact name_var j (by omega)
theorem grammar_right (s:Sm) (hf:few s 20 8=true):right (grammar s)=true:=by
 have ht:=nTok_le s
 have hv:=nVar_le s
 obtain ⟨h1,h2,h3⟩:=smRules_ok s hf (nVar s) (Nat.le_refl _)
 have ha:s.assocs.length≤5:=by
  unfold few at hf
  simp only [Bool.and_eq_true,decide_eq_true_eq] at hf
  exact hf.1.2
 obtain ⟨f1,f2,f3⟩:=smLevs_flat s ha (nTok s) ht.1
 unfold right
 simp only [Bool.and_eq_true,decide_eq_true_eq]
 have hl:=smLevs_len s (nTok s)
 refine ⟨⟨⟨⟨⟨⟨⟨⟨⟨⟨⟨?_,?_⟩,?_⟩,?_⟩,?_⟩,?_⟩,?_⟩,?_⟩,?_⟩,?_⟩,?_⟩,?_⟩
 ·simp [grammar]; omega
 ·simp [grammar]
 ·show (smLevs s (nTok s)).length≤10; omega
 ·obtain ⟨r,hr,_⟩:=h3 0 (by omega)
  show 1≤(smRules s (nVar s)).length
  exact List.length_pos_of_mem hr
 ·show (smRules s (nVar s)).length≤40; omega
 ·exact name_S
 ·rw [List.all_eq_true]
  intro t ht'
  obtain ⟨i,_,rfl⟩:=List.mem_map.1 ht'
  exact okPat_tok i
 ·rfl
 ·rw [List.all_eq_true]
  intro l hl'
  obtain ⟨i,hi,rfl⟩:=List.getElem_of_mem hl'
  have hi':i < (smLevs s (nTok s)).length:=hi
  obtain ⟨l,e,hm,h4,h5⟩:=f3 i (by omega)
  have e':(smLevs s (nTok s))[i]=l:=by rw [List.getElem?_eq_getElem hi'] at e; exact Option.some.inj e
  show okLev (smLevs s (nTok s))[i]=true
  rw [e']
  unfold okLev
  simp only [Bool.and_eq_true,decide_eq_true_eq,bne_iff_ne]
  have:=List.length_pos_of_mem hm
  exact ⟨⟨h4,h5⟩,by omega⟩
 ·rw [List.all_eq_true]
  intro r hr
  have ho:=h1 r hr
  obtain ⟨j,hj,el⟩:=ho.l
  unfold okRule
  simp only [Bool.and_eq_true,decide_eq_true_eq,Bool.or_eq_true]
  refine ⟨⟨⟨⟨?_,ho.n⟩,?_⟩,?_⟩,?_⟩
  ·rw [el]; exact name_var j (by omega)
  ·rcases ho.p with e | ⟨i,hi,e⟩
   ·left; rw [e]; rfl
   ·right; rw [e]; exact name_lev i (by omega)
  ·rw [ho.a]; exact action_E
  ·rw [allN_true]
   intro i hi
   rw [nth_of hi]
   exact name_of_rule (ho.rt _ (List.getElem_mem hi))
 ·refine once_of ?_ ?_
  ·intro x hx
   obtain ⟨t,ht',rfl⟩:=List.mem_map.1 hx
   obtain ⟨i,hi,rfl⟩:=List.mem_map.1 ht'
   exact name_tok i (by have:=List.mem_range.1 hi; omega)
  ·have e:(grammar s).toks.map (·.name)=(List.range (nTok s)).map tokS:=by simp [grammar]
   rw [e]
   unfold List.Nodup
   rw [List.pairwise_iff_getElem]
   intro i j hi hj hij h
   simp only [List.length_map,List.length_range] at hi hj
   simp only [List.getElem_map,List.getElem_range] at h
   have:=tok_inj (by omega) (by omega) h
   omega
 ·refine once_of ?_ f1
  intro x hx
  rcases f2 x hx with ⟨i,hi,rfl⟩ | ⟨j,hj,rfl⟩
  ·exact name_lev i (by omega)
  ·exact name_tok j (by omega)
theorem toks_some {ls:List Rd.Lev} {vs:List ByteArray}:∀ (ts:List Rd.Tok) (tm:List ByteArray) (lv:List Nat),(∀ t ∈ ts,t.name ∉ vs)→∃ q,toks ls vs ts tm lv=.ok q
 | [],tm,lv,_=>⟨_,rfl⟩
 | t::ts,tm,lv,h=>by
  rw [toks,if_neg (fun hp=>h t (by simp) (place_iff.1 hp))]
  exact toks_some ts _ _ (fun x hx=>h x (by simp [hx]))
theorem rt_some {tm vs:List ByteArray} {lv:List Nat}:∀ (r:List ByteArray) (l:List Int) (k:Nat),(∀ x ∈ r,x ∈ tm∨x ∈ vs)→∃ q,rt tm vs lv r l k=.ok q
 | [],l,k,_=>⟨_,rfl⟩
 | x::r,l,k,h=>by
  have hs:0≤sym tm vs x:=by
   rcases h x (by simp) with hx | hx
   ·obtain ⟨i,_,_,e⟩:=placeI_pos hx
    unfold sym; rw [e]; simp only; omega
   ·obtain ⟨i,_,e⟩:=sym_var (tm:=tm) hx
    rw [e]; omega
  rw [rt,if_neg (by omega)]
  exact rt_some r _ _ (fun y hy=>h y (by simp [hy]))
theorem prods_some {ls:List Rd.Lev} {tm vs:List ByteArray} {lv:List Nat}:∀ (rs:List Rd.Rul) (out:List Prod),(∀ r ∈ rs,∃ x,prod ls tm vs lv r=.ok x)→∃ q,prods ls tm vs lv rs out=.ok q
 | [],out,_=>⟨_,rfl⟩
 | r::rs,out,h=>by
  obtain ⟨x,hx⟩:=h r (by simp)
  rw [prods,hx]
  exact prods_some rs _ (fun y hy=>h y (by simp [hy]))
theorem level_pos {ls:List Rd.Lev} {s:ByteArray} {i:Nat} {l:Rd.Lev} (h:ls[i]?=some l) (hm:s ∈ l.names):level ls s≠0:=by
 have hi:i < ls.length:=(List.getElem?_eq_some_iff.1 h).1
 have key:∀ n,i < n→levelF ls s n≠0:=by
  intro n
  induction n with
  | zero=>intro h; omega
  | succ n ih =>
   intro hin
   rw [levelF]
   split
   ·rename_i hne; simpa using hne
   ·rename_i he
    by_cases hi':i < n
    ·exact absurd (by simpa using he) (ih hi')
    ·obtain rfl:i=n:=by omega
     rw [if_pos (by rw [List.getD_eq_getElem?_getD,h]; exact place_iff.2 hm)]
     omega
 exact key _ hi
theorem vars_sub {rs:List Rd.Rul} {x:ByteArray} (h:x ∈ vars rs):∃ r ∈ rs,x=r.left:=by
 have key:∀ (rs:List Rd.Rul) (v:List ByteArray),x ∈ rs.foldl addVar v→x ∈ v∨∃ r ∈ rs,x=r.left:=by
  intro rs
  induction rs with
  | nil=>intro v h; exact .inl h
  | cons r rs ih =>
   intro v h
   rcases ih _ h with h | ⟨r',hr,e⟩
   ·rcases addVar_mem.1 h with h | e
    ·exact .inl h
    ·exact .inr ⟨r,by simp,e⟩
   ·exact .inr ⟨r',by simp [hr],e⟩
 rcases key rs [] h with h | h
 ·cases h
 ·exact h
theorem grammar_of (s:Sm) (hf:few s 20 8=true):∃ p,of (grammar s)=(p,0,Rd.E):=by
 have ht:=nTok_le s
 have hv:=nVar_le s
 obtain ⟨h1,h2,h3⟩:=smRules_ok s hf (nVar s) (Nat.le_refl _)
 have ha:s.assocs.length≤5:=by
  unfold few at hf
  simp only [Bool.and_eq_true,decide_eq_true_eq] at hf
  exact hf.1.2
 obtain ⟨f1,f2,f3⟩:=smLevs_flat s ha (nTok s) ht.1
 have hvar:∀ v,v < nVar s→varS v ∈ vars (grammar s).rules:=fun v hv'=>by
  obtain ⟨r,hr,e⟩:=h3 v hv'
  rw [← e]; exact vars_mem _ r hr
 have hnot:∀ t ∈ (grammar s).toks,t.name ∉ vars (grammar s).rules:=by
  intro t ht' hm
  obtain ⟨i,hi,rfl⟩:=List.mem_map.1 ht'
  obtain ⟨r,hr,e⟩:=vars_sub hm
  obtain ⟨j,hj,el⟩:=(h1 r hr).l
  exact tok_var (i:=i) (j:=j) (by have:=List.mem_range.1 hi; omega) (by omega) (by rw [← el]; exact e)
 obtain ⟨q,hq⟩:=toks_some (ls:=(grammar s).levs) (grammar s).toks [endS] [0] hnot
 obtain ⟨_,hqe⟩:=toks_ok hq
 have hprod:∀ r ∈ (grammar s).rules,∃ x,prod (grammar s).levs q.1 (vars (grammar s).rules) q.2 r=.ok x:=by
  intro r hr
  have ho:=h1 r hr
  obtain ⟨w,hw⟩:=rt_some (tm:=q.1) (vs:=vars (grammar s).rules) (lv:=q.2) r.right [] 0 (fun x hx=>by
   rcases ho.rt x hx with ⟨j,hj,e⟩ | ⟨j,hj,e⟩
   ·left
    rw [hqe,e]
    simp [grammar]
    exact .inr ⟨j,hj,rfl⟩
   ·right; rw [e]; exact hvar j hj)
  unfold prod
  rw [hw]
  simp only
  rcases ho.p with e | ⟨i,hi,e⟩
  ·rw [e]; exact ⟨_,rfl⟩
  ·split
   ·exact ⟨_,rfl⟩
   ·obtain ⟨l,hl,hm,_⟩:=f3 i hi
    rw [if_neg (by rw [e]; have:=level_pos hl hm; show ¬ (level (smLevs s (nTok s)) (levS i) == 0)=true; simpa using this)]
    exact ⟨_,rfl⟩
 obtain ⟨rs,hrs⟩:=prods_some (ls:=(grammar s).levs) (tm:=q.1) (vs:=vars (grammar s).rules) (lv:=q.2) (grammar s).rules [⟨q.1.length+(vars (grammar s).rules).length,[sym q.1 (vars (grammar s).rules) (grammar s).start],0⟩] hprod
 have hst:(place (vars (grammar s).rules) (grammar s).start).isSome=true:=place_iff.2 (hvar 0 (by omega))
 obtain ⟨tm,lv⟩:=q
 have e:of (grammar s)=(⟨tm,vars (grammar s).rules,rs,lv,0::(grammar s).levs.map (·.assoc),Rd.E::(grammar s).rules.map (·.action)⟩,0,Rd.E):=by
  unfold of
  rw [grammar_right s hf]
  simp only [Bool.not_true,Bool.false_eq_true,if_false]
  rw [hq]
  simp only
  rw [hrs]
  simp only
  rw [if_pos hst]
 exact ⟨_,e⟩
theorem plan_of (s:Sm) (hf:few s 20 8=true):of (grammar s)=(plan s,0,Rd.E):=by
 obtain ⟨p,hp⟩:=grammar_of s hf
 unfold plan
 rw [hp]
end Pl
end Go.Proofs.YtjbggogbnckllaaDoor
end
