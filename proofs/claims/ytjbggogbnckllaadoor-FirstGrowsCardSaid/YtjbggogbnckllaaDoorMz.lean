/-
  A list of numbers, which may be none, is appended to a row of one's own.
-/
import Derived.Test.YtjbggogbnckllaaDoorAu
import Derived.Test.YtjbggogbnckllaaDoorAj
import Derived.Test.YtjbggogbnckllaaDoorAk
namespace Go.Proofs.YtjbggogbnckllaaDoor
open Go Go.RowKit
set_option linter.unusedVariables false
set_option linter.unusedSimpArgs false
theorem run_app0 (w:World) (b na:Option Addr) (n cap c:Nat) (ty:TypeId) (h:n≤cap) :
  (Builtin.append_ #[30,30] ty #[.slice b n cap,.slice na 0 c]).run Tryd.prog w=.ok (.slice b n cap) w:=by
 obtain ⟨i,z,hi,hz,hsz,_⟩:=elt_int.hi
 have ht:=Tryd.underlying30
 cases b<;>cases na<;>simp [Builtin.append_,Builtin.lenOf,Builtin.firstCells,ht,hi,hsz,h,sizeOf,typeInfo,Result.andThen,storeCells,loadCells,loadCellsFrom]
theorem own_cap {w:World} {B n m cap:Nat} {b:Option Addr} {e:TypeId} {size:Nat} {xs:List Value} (h:w.ownsRow B e size (.slice b m cap) n xs):n≤cap∧m=n:=by
 rcases h.2 with ⟨e1,e2⟩ | ⟨g,c,cur,hv,_,_,h1,_⟩
 ·cases e1; exact ⟨by omega,by omega⟩
 ·cases hv; exact ⟨h1,rfl⟩
/-- Numbers, which may be none, behind a row of one's own. -/
theorem op_app {w:World} {o:Oper} {a:Act} {K:Act→World→Prop} {Q:Exit→Act→World→Prop} (s x:Operand) (ho:o.op=.call { callee:=.builtin .append,args:=#[s,x],argTypes:=#[30,30] })
  (B n cap:Nat) (b:Option Addr) (xs:List Value) (hs:a.eval s=.slice b n cap) (hown:w.ownsRow B 3 1 (.slice b n cap) n xs) (na:Option Addr) (c:Nat) (l:List Int) (hx:a.eval x=.slice na l.length c) (hI:Ints w na l) (hn:n+l.length≤100000) (hB:B≤w.heap.size)
  (h:∀ b' cap' w',w'.ownsRow B 3 1 (.slice b' (n+l.length) cap') (n+l.length) (xs++intV l)→w.grownBy w' (Value.slice b n cap).ownBlock→K (a.put o.dst (.slice b' (n+l.length) cap')) w'):o.wp Tryd.prog a w K Q:=by
 obtain ⟨i,z,hi,hz,hsz,hby,hzs⟩:=elt_int.hi
 by_cases h0:l.length=0
 ·obtain rfl:l=[]:=List.length_eq_zero_iff.1 h0
  have hr:=run_app0 w b na n cap c o.type (own_cap hown).1
  have hk:=h b cap w (by simpa [intV] using hown) (World.grownBy.refl _ _)
  unfold Oper.wp execOp
  simp only [ho,resolve,invoke,builtin,Sem.run_bind,Sem.run_pure,Result.andThen_ok,List.map_toArray,List.map_cons,List.map_nil,hs,hx,List.length_nil,hr]
  exact hk
 ·obtain ⟨bb,off,rfl,_⟩:=hI 0 (by omega)
  refine wp_append_lies w s x 30 ho B 3 i z 1 8 elt_int.ht hi hz hsz hby hzs (by decide) _ n xs hs hown ⟨bb,off,none⟩ l.length c (intV l) hx (by simp [intV]) (fun j u hj=>?_) (intV_one l) (by omega) (by unfold maxLen; omega) (by omega) hB w.heap.size rfl fun g cap' w' h2 h3 _ _=>h _ _ _ h2 h3
  have hj':j < l.length:=by have:=(List.getElem?_eq_some_iff.1 hj).1; simpa [intV] using this
  obtain ⟨b2,off2,e,hc⟩:=hI j hj'
  cases e
  rw [show (⟨bb,off,none⟩:Addr).add j=⟨bb,off+j,none⟩ by unfold Addr.add; split<;>simp_all]
  simp [intV,hj'] at hj
  rw [← hj]; exact hc
section
variable {P:Program} {D:World→Prop} {R:Act→World→Prop} {ops:Array Oper} {rest:List Oper} {o:Oper} {a:Act} {w:World} {Q:Exit→Act→World→Prop} {K:Act→World→Prop} {e:Nat}
theorem listM_wp (hgd:o.guard=none) (h:o.wp P a w (fun a' w'=>D w'∧wpListM P ops Q D R e rest a' w') Q):wpListM P ops Q D R (e+1) (o::rest) a w:=by
 rw [wpListM,if_pos (by simp [Region.wanted,hgd])]; exact h
theorem listM_wp0 (hgd:o.guard=none) (h:o.wp P a w (fun a' w'=>wpListM P ops Q D R 0 rest a' w') Q):wpListM P ops Q D R 0 (o::rest) a w:=by
 rw [wpListM,if_pos (by simp [Region.wanted,hgd])]; exact h
theorem listM_nil (h:R a w):wpListM P ops Q D R e [] a w:=by cases e<;>exact h
theorem op_bs0 (t et:TypeId) (size bytes:Nat) (E:Elt P t et size bytes) (ho:o.op=.buildSlice t 0 #[])
  (h:K (a.put o.dst (.slice (some ⟨w.heap.size,0,none⟩) 0 0)) (w.alloc (.cells #[] et))):o.wp P a w K Q:=by
 unfold Oper.wp execOp
 simp only [ho,List.map_toArray,List.map_nil,Sem.run_bind]
 rw [run_bs0 E]
 exact h
/-- The rest begins with the k-th operation. -/
theorem region_gk {id:Nat} {l:List Oper} (hs ts:List Nat) (e k sz B:Nat) (A:Act) (hQ:∀ c (a:Act) (d:Option Tmp) (v:Value) w,Q (.panic c) (a.put d v) w→Q (.panic c) a w)
  (hb:B≤w.heap.size) (hm:P.follows .mixedOrders=true) (hB:(decide (k≤l.length)&&gmB l hs ts e (l.length - k) sz)=true) (hsz:a.tmps.size=sz)
  (hh:∀ z:Wd B w,wpQuiet P l.toArray (fun w'=>w'=z.w) (fun a'=>a'=A) (pickL l hs) a) (ht:wpListM P l.toArray Q (fun w'=>∃ x:Wd B w,w'=x.w) (fun a w=>wpQuiet P l.toArray (fun w'=>w'=w) (fun a2=>Q .normal a2 w) (l.drop k) a) e (pickL l ts) A w.drew):(Code.region id l.toArray true).wp P Q a w:=by
 rw [Bool.and_eq_true,decide_eq_true_eq] at hB
 refine region_gm hs ts e (l.length - k) sz B A hQ hb hm hB.2 hsz hh ?_
 have:restM P l Q (l.length - k)=fun a w=>wpQuiet P l.toArray (fun w'=>w'=w) (fun a2=>Q .normal a2 w) (l.drop k) a:=by
  funext a w
  unfold restM
  rw [show l.length - (l.length - k)=k by omega]
 rw [this]; exact ht
end
theorem list_app {w:World} {o:Oper} {ops:Array Oper} {rest:List Oper} {a:Act} {Q:Exit→Act→World→Prop} (hw:Region.wanted o (yielded ops a.tmps)=true) (s x:Operand) (ho:o.op=.call { callee:=.builtin .append,args:=#[s,x],argTypes:=#[30,30] })
  (B n cap:Nat) (b:Option Addr) (xs:List Value) (hs:a.eval s=.slice b n cap) (hown:w.ownsRow B 3 1 (.slice b n cap) n xs) (na:Option Addr) (c:Nat) (l:List Int) (hx:a.eval x=.slice na l.length c) (hI:Ints w na l) (hn:n+l.length≤100000) (hB:B≤w.heap.size)
  (h:∀ b' cap' w',w'.ownsRow B 3 1 (.slice b' (n+l.length) cap') (n+l.length) (xs++intV l)→w.grownBy w' (Value.slice b n cap).ownBlock→wpList Tryd.prog ops Q rest (a.put o.dst (.slice b' (n+l.length) cap')) w'):wpList Tryd.prog ops Q (o::rest) a w:=by
 rw [wpList,if_pos hw]
 exact .inl (op_app s x ho B n cap b xs hs hown na c l hx hI hn hB h)
/-- A row of numbers of one's own as a slice. -/
theorem own_slice {w:World} {B n:Nat} {v:Value} {l:List Int} (h:w.ownsRow B 3 1 v n (intV l)):∃ a cap,v=.slice a n cap∧Ints w a l:=by
 have h0:=h
 rcases h.2 with ⟨rfl,rfl⟩ | ⟨g,c,cur,rfl,_⟩
 ·exact ⟨none,0,rfl,Ints.of_owns h0⟩
 ·exact ⟨_,_,rfl,Ints.of_owns h0⟩
end Go.Proofs.YtjbggogbnckllaaDoor
