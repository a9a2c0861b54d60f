/-
  Walks of the reference's lexer: letters, digits, places, what stands behind a backslash.
  Walks of the reference's lexer: words.
  The walk of the reference's lexer: a quoted text.
  The walk of the reference's lexer: an action.
-/
import Derived.Test.YtjbggogbnckllaaDoorAa
import Derived.Test.YtjbggogbnckllaaDoorLx
import Derived.Lib.Strings
import Derived.Laws.IdiomStrings
section
set_option maxRecDepth 100000
namespace Go.Proofs.YtjbggogbnckllaaDoor
open Go.RowKit
set_option linter.unusedVariables false
def vFound (f:Lx.Found):Value:=.agg #[.int .i64 f.kind,.string f.text,.int .i64 f.to,.int .i64 f.code,.int .i64 f.bad]
def vPos (p:Lx.Pos):Value:=.agg #[.int .i64 p.line,.int .i64 p.col]
set_option maxHeartbeats 4000000 in
theorem letter_any (c:Int) (w:World) :
  Calls Tryd.prog 96 #[.int .u8 c] w fun e w'=>e=.returned (.bool (Lx.letter c))∧w=w':=by
 have hv:Lx.letter c=((c == 95)||(decide (97≤c)&&decide (c≤122))||(decide (65≤c)&&decide (c≤90))):=rfl
 cases h1:(c == 95)<;>cases h2:decide (97≤c)<;>cases h3:decide (c≤122)<;>cases h4:decide (65≤c)<;>cases h5:decide (c≤90)
 all_goals
  rw [h1,h2,h3,h4,h5] at hv
  have HV:=Lib.hid hv
  clear hv
  go_enter Tryd.func96,Tryd.ntmps96
  go_wp2
  go_ret
  exact ⟨ret_bool HV.out.symm,rfl⟩
set_option maxHeartbeats 1000000 in
theorem digit_any (c:Int) (w:World) :
  Calls Tryd.prog 97 #[.int .u8 c] w fun e w'=>e=.returned (.bool (Lx.digit c))∧w=w':=by
 have hv:Lx.digit c=(decide (48≤c)&&decide (c≤57)):=rfl
 cases h1:decide (48≤c)<;>cases h2:decide (c≤57)
 all_goals
  rw [h1,h2] at hv
  have HV:=Lib.hid hv
  clear hv
  go_enter Tryd.func97,Tryd.ntmps97
  go_wp2
  go_ret
  exact ⟨ret_bool HV.out.symm,rfl⟩
set_option maxHeartbeats 1000000 in
theorem bad_any (code:Int) (i:Nat) (w:World) :
  Calls Tryd.prog 98 #[.int .i64 code,.int .i64 i] w fun e w'=>e=.returned (.agg #[.int .i64 0,.string ⟨#[]⟩,.int .i64 0,.int .i64 code,.int .i64 i])∧Below w.heap.size w w':=by
 go_enter Tryd.func98,Tryd.ntmps98
 go_wp2
 exact bodyPost_ret (v:=.agg #[.int .i64 0,.string ⟨#[]⟩,.int .i64 0,.int .i64 code,.int .i64 i]) (by simp [results,Tryd.results98,go_sem]) rfl ⟨rfl,(Below.refl _ _).alloc (Nat.le_refl _) _⟩
def vTold (t:Int×Bool):Value:=.tuple #[.int .u8 t.1,.bool t.2]
set_option maxHeartbeats 4000000 in
theorem told_any (s:ByteArray) (i:Nat) (b:Bool) (w:World) (hs:s.size≤4000) (hi:i≤s.size) :
  Calls Tryd.prog 110 #[.string s,.int .i64 i,.bool b] w fun e w'=>e=.returned (vTold (Lx.told s i b))∧w=w':=by
 by_cases hlt:i+1 < s.size
 ·have hd:decide ((s.size:Int)≤(i:Int)+1)=false:=by simp; omega
  have hv:Lx.told s i b=if (Lx.at_ s (i+1)) == 110 then (10,true) else if (Lx.at_ s (i+1)) == 116 then (9,true)
   else if ((Lx.at_ s (i+1)) == 92)||(((Lx.at_ s (i+1)) == 34)&&!b)||((((Lx.at_ s (i+1)) == 93)||((Lx.at_ s (i+1)) == 45))&&b) then (Lx.at_ s (i+1),true) else (0,false):=by
   unfold Lx.told; rw [if_neg (by omega)]
  rw [Lx.at_of hlt] at hv
  cases h1:(((s[i+1].toNat:Nat):Int) == 110)
  case true =>
   rw [h1] at hv
   have HV:=Lib.hid hv
   clear hv
   go_enter Tryd.func110,Tryd.ntmps110
   go_wp2
   go_ret2
   exact ⟨by rw [HV.out]; rfl,rfl⟩
  cases h2:(((s[i+1].toNat:Nat):Int) == 116)
  case true =>
   rw [h1,h2] at hv
   have HV:=Lib.hid hv
   clear hv
   go_enter Tryd.func110,Tryd.ntmps110
   go_wp2
   go_ret2
   exact ⟨by rw [HV.out]; rfl,rfl⟩
  cases h3:(((s[i+1].toNat:Nat):Int) == 92)
  case true =>
   rw [h1,h2,h3] at hv
   have HV:=Lib.hid hv
   clear hv
   go_enter Tryd.func110,Tryd.ntmps110
   go_wp2
   go_ret2
   exact ⟨by rw [HV.out]; rfl,rfl⟩
  cases h4:(((s[i+1].toNat:Nat):Int) == 34)<;>cases h5:(((s[i+1].toNat:Nat):Int) == 93)<;>cases h6:(((s[i+1].toNat:Nat):Int) == 45)<;>cases b
  all_goals
   rw [h1,h2,h3,h4,h5,h6] at hv
   have HV:=Lib.hid hv
   clear hv
   go_enter Tryd.func110,Tryd.ntmps110
   go_wp2
   go_ret2
   exact ⟨by rw [HV.out]; rfl,rfl⟩
 ·have hd:decide ((s.size:Int)≤(i:Int)+1)=true:=by simp; omega
  have hv:Lx.told s i b=(0,false):=by unfold Lx.told; rw [if_pos (by omega)]
  have HV:=Lib.hid hv
  clear hv
  go_enter Tryd.func110,Tryd.ntmps110
  go_wp2
  go_ret2
  exact ⟨by rw [HV.out]; rfl,rfl⟩
theorem pos_succ (s:ByteArray) (n:Nat) (h:n < s.size):Lx.posF s (n+1)=if ((s[n].toNat:Nat):Int)=10 then ⟨(Lx.posF s n).line+1,1⟩ else ⟨(Lx.posF s n).line,(Lx.posF s n).col+1⟩:=by
 rw [Lx.posF,Lx.at_of h]
theorem pos_le (s:ByteArray) (n:Nat):(Lx.posF s n).line≤n+1∧(Lx.posF s n).col≤n+1:=by
 induction n with
 | zero=>exact ⟨Nat.le_refl _,Nat.le_refl _⟩
 | succ n ih=>rw [Lx.posF]; split<;>constructor<;>simp<;>omega
set_option maxRecDepth 100000 in
set_option maxHeartbeats 4000000 in
theorem at_any (s:ByteArray) (k:Nat) (w:World) (hs:s.size≤4000) (hk:k≤s.size) :
  Calls Tryd.prog 83 #[.string s,.int .i64 k] w fun e w'=>e=.returned (vPos (Lx.posF s k))∧Below w.heap.size w w':=by
 by_cases h0:k=0
 ·subst h0
  go_enter Tryd.func83,Tryd.ntmps83
  go_wp2_with fail
  go_loopw [7] (fun i wr=>i=.int .i64 0∧wr=(w.alloc (.cells #[.int .i64 0,.int .i64 0] 89)).alloc (.cells #[.int .i64 1,.int .i64 1] 89)) (fun _ _=>0)
  case atStart=>exact ⟨rfl,rfl⟩
  case round =>
   obtain ⟨rfl,rfl⟩:=hrel
   go_wp2_with fail
   exact bodyPost_ret (v:=.agg #[.int .i64 1,.int .i64 1]) (by simp [results,Tryd.results83,go_sem]) rfl ⟨rfl,((Below.refl _ _).alloc (Nat.le_refl _) _).alloc (by simp) _⟩
 have hk0:0 < k:=by omega
 clear h0
 have H0:Hid (Lx.posF s 0=⟨1,1⟩):=Lib.hid rfl
 go_enter Tryd.func83,Tryd.ntmps83
 go_wp2_with fail
 go_loopw [7] (fun i wr=>∃ n:Nat,i=.int .i64 n∧n≤k∧wr=(w.alloc (.cells #[.int .i64 0,.int .i64 0] 89)).alloc (.cells #[.int .i64 (Lx.posF s n).line,.int .i64 (Lx.posF s n).col] 89)) (fun i _=>k - (intOf i).toNat)
 case atStart=>exact ⟨0,rfl,by omega,rfl⟩
 case round =>
  obtain ⟨n,rfl,hn,rfl⟩:=hrel
  by_cases hlt:n < k
  ·have hns:n < s.size:=by omega
   have hp:=Lib.hid (pos_succ s n hns)
   have hb:=pos_le s n
   obtain ⟨ln,hln⟩:∃ ln,ln=(Lx.posF s n).line:=⟨_,rfl⟩
   obtain ⟨cn,hcn⟩:∃ cn,cn=(Lx.posF s n).col:=⟨_,rfl⟩
   rw [← hln,← hcn] at hp hb ⊢
   clear hln hcn
   obtain ⟨hb1,hb2⟩:=hb
   cases hc:(((s[n].toNat:Nat):Int) == 10)
   all_goals
    have hc':=hc
    simp only [beq_iff_eq,beq_eq_false_iff_ne,ne_eq] at hc'
    have HP:=hp.out
    first | rw [if_pos hc'] at HP | rw [if_neg hc'] at HP
    have HQ:=Lib.hid HP
    clear hc' HP hp
    go_wp2_with fail
    go_roundw
    case rel=>exact ⟨n+1,by go_num,by omega,by rw [HQ.out]; rfl⟩
    case measure=>simp [intOf]; omega
  ·obtain rfl:n=k:=by omega
   go_wp2_with fail
   exact bodyPost_ret (v:=vPos (Lx.posF s n)) (by simp [results,Tryd.results83,go_sem,vPos]) rfl ⟨rfl,((Below.refl _ _).alloc (Nat.le_refl _) _).alloc (by simp) _⟩
end Go.Proofs.YtjbggogbnckllaaDoor
end
section
set_option maxRecDepth 100000
namespace Go.Proofs.YtjbggogbnckllaaDoor
open Go.RowKit
set_option linter.unusedVariables false
set_option linter.unusedSimpArgs false
/-- A slice of texts. -/
def Strs (w:World) (a:Option Addr) (l:List ByteArray):Prop:=∀ i (h:i < l.length),∃ b off,a=some ⟨b,off,none⟩∧w.cell? ⟨b,off+i,none⟩=some (.string l[i])
theorem Strs.below {w w':World} {a:Option Addr} {l:List ByteArray} (h:Strs w a l) (k:Below w.heap.size w w'):Strs w' a l:=by
 intro i hi
 obtain ⟨b,off,rfl,hc⟩:=h i hi
 have hlt:b < w.heap.size:=World.block_lt_of_cell? w _ hc
 exact ⟨b,off,rfl,((bcell k).1 _ _ hlt).trans hc⟩
theorem strs_new {w:World} {g:Nat} {t:TypeId} {l:List ByteArray} {vs:Array Value} (h:w.heap[g]?=some (.cells vs t (0,0))) (hv:vs=(l.map Value.string).toArray):Strs w (some ⟨g,0,none⟩) l:=by
 intro i hi
 refine ⟨g,0,rfl,?_⟩
 subst hv
 simp [World.cell?,h,hi]
theorem cut_self (s:ByteArray) (i:Nat):Lx.cut s i i=⟨#[]⟩:=by
 apply ByteArray.ext
 simp [Lx.cut]
theorem cut_snoc (s:ByteArray) {a i:Nat} (h:a≤i) (hi:i < s.size):Lx.cut s a i++s.extract i (i+1)=Lx.cut s a (i+1):=by
 apply ByteArray.ext
 simp only [Lx.cut,ByteArray.data_append,ByteArray.data_extract]
 rw [Array.extract_append_extract]
 congr 1<;>omega
theorem cut_size (s:ByteArray) {a i:Nat} (hi:i≤s.size):(Lx.cut s a i).size=i - a:=by simp [Lx.cut]; omega
set_option maxHeartbeats 1000000 in
theorem words_any (w:World):Calls Tryd.prog 109 #[] w fun e w'=>e=.returned (.slice (some ⟨w.heap.size,0,none⟩) 8 8)∧Strs w' (some ⟨w.heap.size,0,none⟩) Lx.words∧Below w.heap.size w w':=by
 go_enter Tryd.func109,Tryd.ntmps109
 go_wp2
 go_ret
 exact ⟨rfl,strs_new (heap_alloc_new w _) rfl,(Below.refl _ _).alloc (Nat.le_refl _) _⟩
theorem words_len:Lx.words.length=8:=rfl
theorem addr_inj {a b c d:Nat} (h:(some ⟨a,b,none⟩:Option Addr)=some ⟨c,d,none⟩):c=a∧d=b:=by cases h; exact ⟨rfl,rfl⟩
def strEq (x t:ByteArray):Bool:=x.toList == t.toList
theorem strEq_no {x t:ByteArray} (h:¬ x=t):strEq x t=false:=by
 unfold strEq
 rw [Bool.eq_false_iff]
 intro hh
 rw [beq_iff_eq,ByteArray.toList_eq,ByteArray.toList_eq] at hh
 exact h (ByteArray.ext (Array.toList_inj.1 hh))
/-- The text that a word is. -/
def wordT (s:ByteArray) (frm:Nat):ByteArray:=if frm+1 < s.size∧Lx.at_ s (frm+1)=37 then ⟨#[37]⟩ else Lx.cut s (frm+1) (Lx.run s Lx.lower s.size (frm+1))
theorem word_in {s t:ByteArray} {frm:Nat} (h:wordT s frm=t) (hm:t ∈ Lx.words):Lx.word s frm=⟨2,t,frm+1+t.size,0,0⟩:=by
 show (if Lx.isIn (wordT s frm) Lx.words then (⟨2,wordT s frm,frm+1+(wordT s frm).size,0,0⟩:Lx.Found) else _)=_
 rw [h,if_pos (Lx.isIn_iff.2 hm)]
theorem word_out {s t:ByteArray} {frm:Nat} (h:wordT s frm=t) (hm:¬ t ∈ Lx.words):Lx.word s frm=Lx.bad 10 frm:=by
 show (if Lx.isIn (wordT s frm) Lx.words then (⟨2,wordT s frm,frm+1+(wordT s frm).size,0,0⟩:Lx.Found) else _)=_
 rw [h,if_neg (fun hc=>hm (Lx.isIn_iff.1 hc))]
theorem found_size:(Tryd.prog.info? 136).map (·.size)=some 5:=by kernel_rfl
/-- The result's block. -/
def BX (w wr:World):Prop:=wr.heap[w.heap.size]?=some (.cells #[.int .i64 0,.string ⟨#[]⟩,.int .i64 0,.int .i64 0,.int .i64 0] 136 (0,0))∧Below w.heap.size w wr∧w.heap.size < wr.heap.size
theorem BX.start (w:World):BX w (w.alloc (.cells #[.int .i64 0,.string ⟨#[]⟩,.int .i64 0,.int .i64 0,.int .i64 0] 136)) :=
 ⟨heap_alloc_new w _,(Below.refl _ _).alloc (Nat.le_refl _) _,by simp⟩
theorem BX.below {w wr v:World} (h:BX w wr) (k:Below wr.heap.size wr v):BX w v :=
 ⟨(k.block _ h.2.2).trans h.1,h.2.1.trans (k.mono h.2.1.size),Nat.lt_of_lt_of_le h.2.2 k.size⟩
theorem BX.fin {w wr:World} (h:BX w wr) {cs:Array Value}:Below w.heap.size w (wr.setRow w.heap.size cs) :=
 h.2.1.trans ⟨rfl,rfl,rfl,by simp,fun i hi=>setRow_other _ _ _ _ (by omega)⟩
theorem lit37:ByteArray.toList (⟨#[37]⟩:ByteArray)=[37]:=by rw [ByteArray.toList_eq]
set_option maxRecDepth 100000 in
set_option maxHeartbeats 8000000 in
theorem word_pct (s:ByteArray) (frm:Nat) (w:World) (hs:s.size≤4000) (h1:frm+1 < s.size) (h2:Lx.at_ s (frm+1)=37) :
  Calls Tryd.prog 99 #[.string s,.int .i64 frm] w fun e w'=>e=.returned (vFound (Lx.word s frm))∧Below w.heap.size w w':=by
 have HT:Hid (wordT s frm=⟨#[37]⟩):=Lib.hid (by unfold wordT; rw [if_pos ⟨h1,h2⟩])
 rw [Lx.at_of h1] at h2
 have e1:(((s[frm+1].toNat:Nat):Int) == 37)=true:=by simpa using h2
 have h0:=BX.start w
 clear h2
 go_enter Tryd.func99,Tryd.ntmps99
 go_wp2_with fail
 generalize (w.alloc (.cells #[.int .i64 0,.string ⟨#[]⟩,.int .i64 0,.int .i64 0,.int .i64 0] 136))=W0 at h0 ⊢
 have H0:=Lib.hid h0
 clear h0
 go_wp2_with fail
 refine (words_any _).mono ?_
 rintro e v ⟨rfl,hst,hb⟩
 have hlen0:=words_len
 obtain ⟨gw,hgw⟩:∃ gw,gw=W0.heap.size:=⟨_,rfl⟩
 rw [← hgw] at hst ⊢
 have W1:=Lib.hid hst
 have H1:=Lib.hid (H0.out.below hb)
 clear hst hb H0 hgw hlen0
 go_wp2_with fail
 go_loop [8] (fun i=>∃ k:Nat,i=.int .i64 k∧k≤8∧Hid (∀ j (h:j < Lx.words.length),j < k→Lx.words[j]≠(⟨#[37]⟩:ByteArray))) (fun i=>8 - (intOf i).toNat)
 case atStart=>exact ⟨0,rfl,by omega,Lib.hid (fun j h hj=>by omega)⟩
 case round =>
  obtain ⟨k,rfl,hk,T⟩:=hrel
  by_cases hlt:k < 8
  ·obtain ⟨g,off,e',hc⟩:=W1.out k (by have:=words_len; omega)
   obtain ⟨rfl,rfl⟩:=addr_inj e'
   obtain ⟨x,hx⟩:∃ x,x=Lx.words[k]'(by have:=words_len; omega):=⟨_,rfl⟩
   rw [← hx] at hc
   simp only [Nat.zero_add] at hc
   have HX:=Lib.hid hx
   clear hx e'
   by_cases he:x=(⟨#[37]⟩:ByteArray)
   ·have heq:strEq x (⟨#[37]⟩:ByteArray)=true:=by simp [strEq,he]
    have hv:Hid (Lx.word s frm=⟨2,(⟨#[37]⟩:ByteArray),frm+1+((⟨#[37]⟩:ByteArray)).size,0,0⟩):=Lib.hid (word_in HT.out (by rw [← he,HX.out]; exact List.getElem_mem _))
    clear he HX T
    unfold strEq at heq
    rw [lit37] at heq
    have g0:=H1.out.1
    go_wp2_with (refine list_store_row rfl 136 _ _ rfl w.heap.size rfl _ rfl _ 136 g0 rfl found_size (by simp [Value.oneCell']) ?_)
    exact bodyPost_ret (results_cell_row rfl _ _ w.heap.size 136 _ (0,0) _ rfl (setRow_heap _ _ _ _ _ _ g0) Tryd.underlying136 rfl found_size) rfl ⟨by rw [hv.out]; first | rfl | (simp [vFound,Lx.bad]; done) | (simp [vFound,Lx.bad]; omega),H1.out.fin⟩
   ·have heq:strEq x (⟨#[37]⟩:ByteArray)=false:=strEq_no he
    have T2:Hid (∀ j (h:j < Lx.words.length),j < k+1→Lx.words[j]≠(⟨#[37]⟩:ByteArray)):=Lib.hid (fun j h hj=>by
     by_cases hjk:j=k
     ·subst hjk; rw [← HX.out]; exact he
     ·exact T.out j h (by omega))
    clear he HX
    unfold strEq at heq
    rw [lit37] at heq
    go_wp2_with fail
    go_round
    case rel=>exact ⟨k+1,by go_num,by omega,T2⟩
    case measure=>simp [intOf]; omega
  ·obtain rfl:k=8:=by omega
   have hv:Hid (Lx.word s frm=Lx.bad 10 frm):=Lib.hid (word_out HT.out (fun h=>by
    obtain ⟨j,hj,e⟩:=List.getElem_of_mem h
    exact T.out j hj (by have:=words_len; omega) e))
   clear T
   go_wp2_with fail
   refine (bad_any 10 frm _).mono ?_
   rintro e vb ⟨rfl,hbb⟩
   have HBX:=Lib.hid (H1.out.below hbb)
   have g0:=HBX.out.1
   clear hbb
   go_wp2_with (refine list_store_row rfl 136 _ _ rfl w.heap.size rfl _ rfl _ 136 g0 rfl found_size (by simp [Value.oneCell']) ?_)
   exact bodyPost_ret (results_cell_row rfl _ _ w.heap.size 136 _ (0,0) _ rfl (setRow_heap _ _ _ _ _ _ g0) Tryd.underlying136 rfl found_size) rfl ⟨by rw [hv.out]; first | rfl | (simp [vFound,Lx.bad]; done) | (simp [vFound,Lx.bad]; omega),HBX.out.fin⟩
set_option maxRecDepth 100000 in
set_option maxHeartbeats 8000000 in
theorem word_low (s:ByteArray) (frm:Nat) (w:World) (hs:s.size≤4000) (hf:frm < s.size) (h37:¬ (frm+1 < s.size∧Lx.at_ s (frm+1)=37)) :
  Calls Tryd.prog 99 #[.string s,.int .i64 frm] w fun e w'=>e=.returned (vFound (Lx.word s frm))∧Below w.heap.size w w':=by
 obtain ⟨R,hR⟩:∃ R,Lx.run s Lx.lower s.size (frm+1)=R:=⟨_,rfl⟩
 have HT0:Hid (wordT s frm=Lx.cut s (frm+1) R):=Lib.hid (by unfold wordT; rw [if_neg h37,hR])
 have h0:=BX.start w
 have hrest:frm+1 < s.size→∃ h:frm+1 < s.size,(((s[frm+1].toNat:Nat):Int) == 37)=false:=fun h=>⟨h,by
  simp only [beq_eq_false_iff_ne,ne_eq]; intro e; exact h37 ⟨h,by rw [Lx.at_of h]; exact e⟩⟩
 have hlow:∀ i (h:i < s.size),Lx.lower (Lx.at_ s i)=(decide (97≤((s[i].toNat:Nat):Int))&&decide (((s[i].toNat:Nat):Int)≤122)):=fun i h=>by rw [Lx.at_of h]; rfl
 have HL:=Lib.hid hlow
 have HR0:=Lib.hid hR
 have e0:=Lib.hid (cut_self s (frm+1))
 clear h37 hR hlow
 rcases Nat.lt_or_ge (frm+1) s.size with h1 | h1
 ·obtain ⟨_,e1⟩:=hrest h1
  have hd:decide ((frm:Int)+1 < (s.size:Int))=true:=by simp; omega
  clear hrest
  go_enter Tryd.func99,Tryd.ntmps99
  go_wp2_with fail
  generalize (w.alloc (.cells #[.int .i64 0,.string ⟨#[]⟩,.int .i64 0,.int .i64 0,.int .i64 0] 136))=W0 at h0 ⊢
  have H0:=Lib.hid h0
  clear h0
  go_loop [5,6] (fun t i=>∃ (k f:Nat) (tt:ByteArray),i=.int .i64 k∧frm+1≤k∧k≤s.size∧t=.string tt∧Hid (tt=Lx.cut s (frm+1) k)∧tt.size≤4000∧s.size≤k+f∧Hid (Lx.run s Lx.lower f k=R)) (fun _ i=>s.size - (intOf i).toNat)
  case atStart=>exact ⟨frm+1,s.size,_,by go_num,by omega,by omega,rfl,Lib.hid e0.out.symm,by decide,by omega,HR0⟩
  case round =>
   obtain ⟨k,f,tt,rfl,hk1,hk2,rfl,HTT,hts,hf2,HR⟩:=hrel
   by_cases hlt:k < s.size
   ·obtain ⟨f,rfl⟩:∃ g,f=g+1:=⟨f - 1,by omega⟩
    have hl:=HL.out k hlt
    have hsn:Hid (tt++s.extract k (k+1)=Lx.cut s (frm+1) (k+1)):=Lib.hid (by rw [HTT.out]; exact cut_snoc s hk1 hlt)
    have hsz:(tt++s.extract k (k+1)).size≤4000:=by rw [hsn.out,cut_size s (by omega)]; omega
    cases a1:decide (97≤((s[k].toNat:Nat):Int))<;>cases a2:decide (((s[k].toNat:Nat):Int)≤122)
    case true.true =>
     have hr:Hid (Lx.run s Lx.lower f (k+1)=R):=Lib.hid (by
      have:=HR.out
      rw [Lx.run,if_pos ⟨hlt,by rw [hl,a1,a2]; rfl⟩] at this
      exact this)
     have HSZ:=Lib.hid hsz
     clear hl hsz
     go_wp2_with fail
     go_round
     case rel=>exact ⟨k+1,f,_,by go_num,by omega,by omega,rfl,hsn,HSZ.out,by omega,hr⟩
     case measure=>simp [intOf]; omega
    all_goals
     have HT:Hid (wordT s frm=tt):=Lib.hid (by
      have:=HR.out
      rw [Lx.run,if_neg (fun h=>by rw [hl,a1,a2] at h; exact absurd h.2 (by decide))] at this
      rw [HT0.out,← this,HTT.out])
     clear hl hsz HTT
     go_wp2_with fail
     refine (words_any _).mono ?_
     rintro e v ⟨rfl,hst,hb⟩
     have hlen0:=words_len
     obtain ⟨gw,hgw⟩:∃ gw,gw=W0.heap.size:=⟨_,rfl⟩
     rw [← hgw] at hst ⊢
     have W1:=Lib.hid hst
     have H1:=Lib.hid (H0.out.below hb)
     clear hst hb H0 hgw hlen0
     go_wp2_with fail
     go_loop [8] (fun i=>∃ k:Nat,i=.int .i64 k∧k≤8∧Hid (∀ j (h:j < Lx.words.length),j < k→Lx.words[j]≠tt)) (fun i=>8 - (intOf i).toNat)
     case atStart=>exact ⟨0,rfl,by omega,Lib.hid (fun j h hj=>by omega)⟩
     case round =>
      obtain ⟨k,rfl,hk,T⟩:=hrel
      by_cases hlt:k < 8
      ·obtain ⟨g,off,e',hc⟩:=W1.out k (by have:=words_len; omega)
       obtain ⟨rfl,rfl⟩:=addr_inj e'
       obtain ⟨x,hx⟩:∃ x,x=Lx.words[k]'(by have:=words_len; omega):=⟨_,rfl⟩
       rw [← hx] at hc
       simp only [Nat.zero_add] at hc
       have HX:=Lib.hid hx
       clear hx e'
       by_cases he:x=tt
       ·have heq:strEq x tt=true:=by simp [strEq,he]
        have hv:Hid (Lx.word s frm=⟨2,tt,frm+1+(tt).size,0,0⟩):=Lib.hid (word_in HT.out (by rw [← he,HX.out]; exact List.getElem_mem _))
        clear he HX T
        unfold strEq at heq
        have g0:=H1.out.1
        go_wp2_with (refine list_store_row rfl 136 _ _ rfl w.heap.size rfl _ rfl _ 136 g0 rfl found_size (by simp [Value.oneCell']) ?_)
        exact bodyPost_ret (results_cell_row rfl _ _ w.heap.size 136 _ (0,0) _ rfl (setRow_heap _ _ _ _ _ _ g0) Tryd.underlying136 rfl found_size) rfl ⟨by rw [hv.out]; first | rfl | (simp [vFound,Lx.bad]; done) | (simp [vFound,Lx.bad]; omega),H1.out.fin⟩
       ·have heq:strEq x tt=false:=strEq_no he
        have T2:Hid (∀ j (h:j < Lx.words.length),j < k+1→Lx.words[j]≠tt):=Lib.hid (fun j h hj=>by
         by_cases hjk:j=k
         ·subst hjk; rw [← HX.out]; exact he
         ·exact T.out j h (by omega))
        clear he HX
        unfold strEq at heq
        go_wp2_with fail
        go_round
        case rel=>exact ⟨k+1,by go_num,by omega,T2⟩
        case measure=>simp [intOf]; omega
      ·obtain rfl:k=8:=by omega
       have hv:Hid (Lx.word s frm=Lx.bad 10 frm):=Lib.hid (word_out HT.out (fun h=>by
        obtain ⟨j,hj,e⟩:=List.getElem_of_mem h
        exact T.out j hj (by have:=words_len; omega) e))
       clear T
       go_wp2_with fail
       refine (bad_any 10 frm _).mono ?_
       rintro e vb ⟨rfl,hbb⟩
       have HBX:=Lib.hid (H1.out.below hbb)
       have g0:=HBX.out.1
       clear hbb
       go_wp2_with (refine list_store_row rfl 136 _ _ rfl w.heap.size rfl _ rfl _ 136 g0 rfl found_size (by simp [Value.oneCell']) ?_)
       exact bodyPost_ret (results_cell_row rfl _ _ w.heap.size 136 _ (0,0) _ rfl (setRow_heap _ _ _ _ _ _ g0) Tryd.underlying136 rfl found_size) rfl ⟨by rw [hv.out]; first | rfl | (simp [vFound,Lx.bad]; done) | (simp [vFound,Lx.bad]; omega),HBX.out.fin⟩
   ·obtain rfl:k=s.size:=by omega
    have HT:Hid (wordT s frm=tt):=Lib.hid (by
     have:=HR.out
     cases f with
     | zero=>rw [Lx.run] at this; rw [HT0.out,← this,HTT.out]
     | succ f=>rw [Lx.run,if_neg (fun h=>absurd h.1 hlt)] at this; rw [HT0.out,← this,HTT.out])
    clear HTT
    go_wp2_with fail
    refine (words_any _).mono ?_
    rintro e v ⟨rfl,hst,hb⟩
    have hlen0:=words_len
    obtain ⟨gw,hgw⟩:∃ gw,gw=W0.heap.size:=⟨_,rfl⟩
    rw [← hgw] at hst ⊢
    have W1:=Lib.hid hst
    have H1:=Lib.hid (H0.out.below hb)
    clear hst hb H0 hgw hlen0
    go_wp2_with fail
    go_loop [8] (fun i=>∃ k:Nat,i=.int .i64 k∧k≤8∧Hid (∀ j (h:j < Lx.words.length),j < k→Lx.words[j]≠tt)) (fun i=>8 - (intOf i).toNat)
    case atStart=>exact ⟨0,rfl,by omega,Lib.hid (fun j h hj=>by omega)⟩
    case round =>
     obtain ⟨k,rfl,hk,T⟩:=hrel
     by_cases hlt:k < 8
     ·obtain ⟨g,off,e',hc⟩:=W1.out k (by have:=words_len; omega)
      obtain ⟨rfl,rfl⟩:=addr_inj e'
      obtain ⟨x,hx⟩:∃ x,x=Lx.words[k]'(by have:=words_len; omega):=⟨_,rfl⟩
      rw [← hx] at hc
      simp only [Nat.zero_add] at hc
      have HX:=Lib.hid hx
      clear hx e'
      by_cases he:x=tt
      ·have heq:strEq x tt=true:=by simp [strEq,he]
       have hv:Hid (Lx.word s frm=⟨2,tt,frm+1+(tt).size,0,0⟩):=Lib.hid (word_in HT.out (by rw [← he,HX.out]; exact List.getElem_mem _))
       clear he HX T
       unfold strEq at heq
       have g0:=H1.out.1
       go_wp2_with (refine list_store_row rfl 136 _ _ rfl w.heap.size rfl _ rfl _ 136 g0 rfl found_size (by simp [Value.oneCell']) ?_)
       exact bodyPost_ret (results_cell_row rfl _ _ w.heap.size 136 _ (0,0) _ rfl (setRow_heap _ _ _ _ _ _ g0) Tryd.underlying136 rfl found_size) rfl ⟨by rw [hv.out]; first | rfl | (simp [vFound,Lx.bad]; done) | (simp [vFound,Lx.bad]; omega),H1.out.fin⟩
      ·have heq:strEq x tt=false:=strEq_no he
       have T2:Hid (∀ j (h:j < Lx.words.length),j < k+1→Lx.words[j]≠tt):=Lib.hid (fun j h hj=>by
        by_cases hjk:j=k
        ·subst hjk; rw [← HX.out]; exact he
        ·exact T.out j h (by omega))
       clear he HX
       unfold strEq at heq
       go_wp2_with fail
       go_round
       case rel=>exact ⟨k+1,by go_num,by omega,T2⟩
       case measure=>simp [intOf]; omega
     ·obtain rfl:k=8:=by omega
      have hv:Hid (Lx.word s frm=Lx.bad 10 frm):=Lib.hid (word_out HT.out (fun h=>by
       obtain ⟨j,hj,e⟩:=List.getElem_of_mem h
       exact T.out j hj (by have:=words_len; omega) e))
      clear T
      go_wp2_with fail
      refine (bad_any 10 frm _).mono ?_
      rintro e vb ⟨rfl,hbb⟩
      have HBX:=Lib.hid (H1.out.below hbb)
      have g0:=HBX.out.1
      clear hbb
      go_wp2_with (refine list_store_row rfl 136 _ _ rfl w.heap.size rfl _ rfl _ 136 g0 rfl found_size (by simp [Value.oneCell']) ?_)
      exact bodyPost_ret (results_cell_row rfl _ _ w.heap.size 136 _ (0,0) _ rfl (setRow_heap _ _ _ _ _ _ g0) Tryd.underlying136 rfl found_size) rfl ⟨by rw [hv.out]; first | rfl | (simp [vFound,Lx.bad]; done) | (simp [vFound,Lx.bad]; omega),HBX.out.fin⟩
 ·have hd:decide ((frm:Int)+1 < (s.size:Int))=false:=by simp; omega
  have hRR:R=frm+1:=by
   have:=HR0.out
   rw [← this]
   cases s.size with
   | zero=>rfl
   | succ n=>rw [Lx.run,if_neg (fun h=>by omega)]
  have HT1:Hid (wordT s frm=⟨#[]⟩):=Lib.hid (by rw [HT0.out,hRR,e0.out])
  clear hrest hRR
  go_enter Tryd.func99,Tryd.ntmps99
  go_wp2_with fail
  generalize (w.alloc (.cells #[.int .i64 0,.string ⟨#[]⟩,.int .i64 0,.int .i64 0,.int .i64 0] 136))=W0 at h0 ⊢
  have H0:=Lib.hid h0
  clear h0
  go_loop [5,6] (fun t i=>∃ tt:ByteArray,i=.int .i64 ((frm:Int)+1)∧t=.string tt∧Hid (tt=⟨#[]⟩)) (fun _ _=>0)
  case atStart=>exact ⟨_,rfl,rfl,Lib.hid rfl⟩
  case round =>
   obtain ⟨tt,rfl,rfl,HTT⟩:=hrel
   have HT:Hid (wordT s frm=tt):=Lib.hid (by rw [HT1.out,HTT.out])
   have hts:tt.size≤4000:=by rw [HTT.out]; decide
   clear HTT HT1
   go_wp2_with fail
   refine (words_any _).mono ?_
   rintro e v ⟨rfl,hst,hb⟩
   have hlen0:=words_len
   obtain ⟨gw,hgw⟩:∃ gw,gw=W0.heap.size:=⟨_,rfl⟩
   rw [← hgw] at hst ⊢
   have W1:=Lib.hid hst
   have H1:=Lib.hid (H0.out.below hb)
   clear hst hb H0 hgw hlen0
   go_wp2_with fail
   go_loop [8] (fun i=>∃ k:Nat,i=.int .i64 k∧k≤8∧Hid (∀ j (h:j < Lx.words.length),j < k→Lx.words[j]≠tt)) (fun i=>8 - (intOf i).toNat)
   case atStart=>exact ⟨0,rfl,by omega,Lib.hid (fun j h hj=>by omega)⟩
   case round =>
    obtain ⟨k,rfl,hk,T⟩:=hrel
    by_cases hlt:k < 8
    ·obtain ⟨g,off,e',hc⟩:=W1.out k (by have:=words_len; omega)
     obtain ⟨rfl,rfl⟩:=addr_inj e'
     obtain ⟨x,hx⟩:∃ x,x=Lx.words[k]'(by have:=words_len; omega):=⟨_,rfl⟩
     rw [← hx] at hc
     simp only [Nat.zero_add] at hc
     have HX:=Lib.hid hx
     clear hx e'
     by_cases he:x=tt
     ·have heq:strEq x tt=true:=by simp [strEq,he]
      have hv:Hid (Lx.word s frm=⟨2,tt,frm+1+(tt).size,0,0⟩):=Lib.hid (word_in HT.out (by rw [← he,HX.out]; exact List.getElem_mem _))
      clear he HX T
      unfold strEq at heq
      have g0:=H1.out.1
      go_wp2_with (refine list_store_row rfl 136 _ _ rfl w.heap.size rfl _ rfl _ 136 g0 rfl found_size (by simp [Value.oneCell']) ?_)
      exact bodyPost_ret (results_cell_row rfl _ _ w.heap.size 136 _ (0,0) _ rfl (setRow_heap _ _ _ _ _ _ g0) Tryd.underlying136 rfl found_size) rfl ⟨by rw [hv.out]; first | rfl | (simp [vFound,Lx.bad]; done) | (simp [vFound,Lx.bad]; omega),H1.out.fin⟩
     ·have heq:strEq x tt=false:=strEq_no he
      have T2:Hid (∀ j (h:j < Lx.words.length),j < k+1→Lx.words[j]≠tt):=Lib.hid (fun j h hj=>by
       by_cases hjk:j=k
       ·subst hjk; rw [← HX.out]; exact he
       ·exact T.out j h (by omega))
      clear he HX
      unfold strEq at heq
      go_wp2_with fail
      go_round
      case rel=>exact ⟨k+1,by go_num,by omega,T2⟩
      case measure=>simp [intOf]; omega
    ·obtain rfl:k=8:=by omega
     have hv:Hid (Lx.word s frm=Lx.bad 10 frm):=Lib.hid (word_out HT.out (fun h=>by
      obtain ⟨j,hj,e⟩:=List.getElem_of_mem h
      exact T.out j hj (by have:=words_len; omega) e))
     clear T
     go_wp2_with fail
     refine (bad_any 10 frm _).mono ?_
     rintro e vb ⟨rfl,hbb⟩
     have HBX:=Lib.hid (H1.out.below hbb)
     have g0:=HBX.out.1
     clear hbb
     go_wp2_with (refine list_store_row rfl 136 _ _ rfl w.heap.size rfl _ rfl _ 136 g0 rfl found_size (by simp [Value.oneCell']) ?_)
     exact bodyPost_ret (results_cell_row rfl _ _ w.heap.size 136 _ (0,0) _ rfl (setRow_heap _ _ _ _ _ _ g0) Tryd.underlying136 rfl found_size) rfl ⟨by rw [hv.out]; first | rfl | (simp [vFound,Lx.bad]; done) | (simp [vFound,Lx.bad]; omega),HBX.out.fin⟩
theorem word_any (s:ByteArray) (frm:Nat) (w:World) (hs:s.size≤4000) (hf:frm < s.size) :
  Calls Tryd.prog 99 #[.string s,.int .i64 frm] w fun e w'=>e=.returned (vFound (Lx.word s frm))∧Below w.heap.size w w':=by
 by_cases h:frm+1 < s.size∧Lx.at_ s (frm+1)=37
 ·exact word_pct s frm w hs h.1 h.2
 ·exact word_low s frm w hs hf h
end Go.Proofs.YtjbggogbnckllaaDoor
end
section
set_option maxRecDepth 100000
namespace Go.Proofs.YtjbggogbnckllaaDoor
open Go.RowKit
set_option linter.unusedVariables false
set_option linter.unusedSimpArgs false
theorem one_size (c:Int):(Lx.one c).size=1:=rfl
theorem one_conv (w:World) (c:Int) (h0:0≤c) (h1:c < 256) :
  (convert 22 9 (.slice (some ⟨w.heap.size,0,none⟩) 1 1)).run Tryd.prog (w.alloc (.cells #[.int .u8 c] 5))=.ok (.string (Lx.one c)) (w.alloc (.cells #[.int .u8 c] 5)):=by
 have:=run_convert_bytes_back (P:=Tryd.prog) (w.alloc (.cells #[.int .u8 c] 5)) 22 9 5 ⟨w.heap.size,0,none⟩ 1 [UInt8.ofNat c.toNat] Tryd.underlying22 Tryd.underlying5 Tryd.underlying9 (by
  intro j hj
  have hj0:j=0:=by simpa using hj
  subst hj0
  rw [Addr.add_lit]
  rw [World.cell?_alloc_mark]
  have:(UInt8.ofNat c.toNat).toNat=c.toNat:=by rw [UInt8.toNat_ofNat']; omega
  simp [this]
  omega)
 exact this
theorem lit0:ByteArray.toList (⟨#[]⟩:ByteArray)=[]:=by rw [ByteArray.toList_eq]
theorem empty_yes {l:List UInt8} (h:(l == [])=true):l=[]:=by simpa using h
theorem empty_no {l:List UInt8} (h:(l == [])=false):(!l.isEmpty)=true:=by cases l<;>simp_all
theorem text_step (s:ByteArray) (frm f:Nat) (out:ByteArray) (i:Nat) (h:i < s.size):Lx.text s frm (f+1) out i =
  if ((s[i].toNat:Nat):Int) == 10 then Lx.bad 11 frm
  else if ((s[i].toNat:Nat):Int) == 34 then
   if out.size=0 then Lx.bad 10 frm else if 32 < out.size then Lx.bad 12 frm else ⟨3,out,i+1,0,0⟩
  else if ((s[i].toNat:Nat):Int) == 92 then
   if (Lx.told s i false).2 then Lx.text s frm f (out++Lx.one (Lx.told s i false).1) (i+2) else Lx.bad 10 i
  else Lx.text s frm f (out++Lx.cut s i (i+1)) (i+1):=by
 rw [Lx.text,if_neg (by omega),Lx.at_of h]
theorem text_end (s:ByteArray) (frm f:Nat) (out:ByteArray) (i:Nat) (h:s.size≤i):Lx.text s frm f out i=Lx.bad 11 frm:=by
 cases f with
 | zero=>rfl
 | succ f=>rw [Lx.text,if_pos h]
theorem told_lt (s:ByteArray) (i:Nat) (b:Bool) (h:(Lx.told s i b).2=true):i+2≤s.size∧0≤(Lx.told s i b).1∧(Lx.told s i b).1 < 256:=by
 unfold Lx.told at h ⊢
 by_cases h1:s.size≤i+1
 ·rw [if_pos h1] at h; cases h
 ·rw [if_neg h1] at h ⊢
  refine ⟨by omega,?_⟩
  have hb:0≤Lx.at_ s (i+1)∧Lx.at_ s (i+1) < 256:=by
   rw [Lx.at_of (by omega)]
   have:=(s[i+1]'(by omega)).toNat_lt
   omega
  simp only
  split
  ·exact ⟨by decide,by decide⟩
  ·split
   ·exact ⟨by decide,by decide⟩
   ·split
    ·exact hb
    ·exact ⟨by decide,by decide⟩
set_option maxRecDepth 100000 in
set_option maxHeartbeats 16000000 in
theorem text_any (s:ByteArray) (frm:Nat) (w:World) (hs:s.size≤4000) (hf:frm < s.size) :
  Calls Tryd.prog 100 #[.string s,.int .i64 frm] w fun e w'=>e=.returned (vFound (Lx.text s frm s.size ByteArray.empty (frm+1)))∧Below w.heap.size w w':=by
 obtain ⟨R,hR⟩:∃ R,Lx.text s frm s.size ByteArray.empty (frm+1)=R:=⟨_,rfl⟩
 rw [hR]
 have HR0:=Lib.hid hR
 have h0:=BX.start w
 clear hR
 go_enter Tryd.func100,Tryd.ntmps100
 go_wp2_with fail
 generalize (w.alloc (.cells #[.int .i64 0,.string ⟨#[]⟩,.int .i64 0,.int .i64 0,.int .i64 0] 136))=W0 at h0 ⊢
 have H0:=Lib.hid h0
 clear h0
 go_loopw [5,6] (fun t i wr=>∃ (k f:Nat) (out:ByteArray),i=.int .i64 k∧frm+1≤k∧k≤s.size∧t=.string out∧out.size≤k∧s.size≤k+f∧Hid (Lx.text s frm f out k=R)∧Hid (BX w wr)) (fun _ i _=>s.size - (intOf i).toNat)
 case atStart=>exact ⟨frm+1,s.size,ByteArray.empty,by go_num,by omega,by omega,rfl,Nat.zero_le _,by omega,HR0,H0⟩
 case round =>
  clear H0 HR0
  obtain ⟨i,f,out,rfl,hk1,hk2,rfl,hos,hf2,HR,HB⟩:=hrel
  by_cases hlt:i < s.size
  ·obtain ⟨f,rfl⟩:∃ g,f=g+1:=⟨f - 1,by omega⟩
   have hst:=(text_step s frm f out i hlt).symm.trans HR.out
   clear HR
   cases c1:(((s[i].toNat:Nat):Int) == 10)
   case true =>
    rw [c1] at hst
    have hv:Hid (R=Lx.bad 11 frm):=Lib.hid hst.symm
    clear hst
    go_wp2_with fail
    refine (bad_any 11 frm _).mono ?_
    rintro e vb ⟨rfl,hbb⟩
    have HBX:=Lib.hid (HB.out.below hbb)
    have g0:=HBX.out.1
    clear hbb
    go_wp2_with (refine list_store_row rfl 136 _ _ rfl w.heap.size rfl _ rfl _ 136 g0 rfl found_size (by simp [Value.oneCell']) ?_)
    exact bodyPost_ret (results_cell_row rfl _ _ w.heap.size 136 _ (0,0) _ rfl (setRow_heap _ _ _ _ _ _ g0) Tryd.underlying136 rfl found_size) rfl ⟨by rw [hv.out]; first | rfl | (simp [vFound,Lx.bad]; done) | (simp [vFound,Lx.bad]; omega),HBX.out.fin⟩
   cases c2:(((s[i].toNat:Nat):Int) == 34)
   case true =>
    rw [c1,c2] at hst
    by_cases ho:out.size=0
    ·have hv:Hid (R=Lx.bad 10 frm):=Lib.hid (by rw [← hst]; simp [ho])
     have heq:strEq out ⟨#[]⟩=true:=by
      have:out=⟨#[]⟩:=by apply ByteArray.ext; exact Array.eq_empty_of_size_eq_zero ho
      rw [this]; simp [strEq]
     rw [strEq,lit0] at heq
     have he2:=empty_yes heq
     clear hst
     go_wp2_with fail
     refine (bad_any 10 frm _).mono ?_
     rintro e vb ⟨rfl,hbb⟩
     have HBX:=Lib.hid (HB.out.below hbb)
     have g0:=HBX.out.1
     clear hbb
     go_wp2_with (refine list_store_row rfl 136 _ _ rfl w.heap.size rfl _ rfl _ 136 g0 rfl found_size (by simp [Value.oneCell']) ?_)
     exact bodyPost_ret (results_cell_row rfl _ _ w.heap.size 136 _ (0,0) _ rfl (setRow_heap _ _ _ _ _ _ g0) Tryd.underlying136 rfl found_size) rfl ⟨by rw [hv.out]; first | rfl | (simp [vFound,Lx.bad]; done) | (simp [vFound,Lx.bad]; omega),HBX.out.fin⟩
    ·have heq:strEq out ⟨#[]⟩=false:=strEq_no (fun h=>ho (by rw [h]; rfl))
     rw [strEq,lit0] at heq
     have he2:=empty_no heq
     by_cases h32:32 < out.size
     ·have hd:decide ((32:Int) < (out.size:Int))=true:=by simp; omega
      have hd2:decide (32 < out.size)=true:=by simpa using h32
      have hv:Hid (R=Lx.bad 12 frm):=Lib.hid (by rw [← hst]; simp [ho,h32])
      clear hst
      go_wp2_with fail
      refine (bad_any 12 frm _).mono ?_
      rintro e vb ⟨rfl,hbb⟩
      have HBX:=Lib.hid (HB.out.below hbb)
      have g0:=HBX.out.1
      clear hbb
      go_wp2_with (refine list_store_row rfl 136 _ _ rfl w.heap.size rfl _ rfl _ 136 g0 rfl found_size (by simp [Value.oneCell']) ?_)
      exact bodyPost_ret (results_cell_row rfl _ _ w.heap.size 136 _ (0,0) _ rfl (setRow_heap _ _ _ _ _ _ g0) Tryd.underlying136 rfl found_size) rfl ⟨by rw [hv.out]; first | rfl | (simp [vFound,Lx.bad]; done) | (simp [vFound,Lx.bad]; omega),HBX.out.fin⟩
     ·have hd:decide ((32:Int) < (out.size:Int))=false:=by simp; omega
      have hd2:decide (32 < out.size)=false:=by simpa using h32
      have hv:Hid (R=⟨3,out,i+1,0,0⟩):=Lib.hid (by rw [← hst]; simp [ho,h32])
      clear hst
      have g0:=HB.out.1
      go_wp2_with (refine list_store_row rfl 136 _ _ rfl w.heap.size rfl _ rfl _ 136 g0 rfl found_size (by simp [Value.oneCell']) ?_)
      exact bodyPost_ret (results_cell_row rfl _ _ w.heap.size 136 _ (0,0) _ rfl (setRow_heap _ _ _ _ _ _ g0) Tryd.underlying136 rfl found_size) rfl ⟨by rw [hv.out]; first | rfl | (simp [vFound,Lx.bad]; done) | (simp [vFound,Lx.bad]; omega),HB.out.fin⟩
   cases c3:(((s[i].toNat:Nat):Int) == 92)
   case true =>
    rw [c1,c2,c3] at hst
    have htd:=told_any s i false wr hs (by omega)
    obtain ⟨c,hc⟩:∃ c,c=Lx.told s i false:=⟨_,rfl⟩
    have htl:=told_lt s i false
    rw [← hc] at hst htd htl
    clear hc
    obtain ⟨c,ok⟩:=c
    cases ok
    ·have hv:Hid (R=Lx.bad 10 i):=Lib.hid (by rw [← hst]; simp)
     clear hst htl
     unfold vTold at htd
     go_wp2_with fail
     refine htd.mono ?_
     rintro e w' ⟨rfl,rfl⟩
     clear htd
     go_wp2_with fail
     refine (bad_any 10 i _).mono ?_
     rintro e vb ⟨rfl,hbb⟩
     have HBX:=Lib.hid (HB.out.below hbb)
     have g0:=HBX.out.1
     clear hbb
     go_wp2_with (refine list_store_row rfl 136 _ _ rfl w.heap.size rfl _ rfl _ 136 g0 rfl found_size (by simp [Value.oneCell']) ?_)
     exact bodyPost_ret (results_cell_row rfl _ _ w.heap.size 136 _ (0,0) _ rfl (setRow_heap _ _ _ _ _ _ g0) Tryd.underlying136 rfl found_size) rfl ⟨by rw [hv.out]; first | rfl | (simp [vFound,Lx.bad]; done) | (simp [vFound,Lx.bad]; omega),HBX.out.fin⟩
    ·obtain ⟨hl1,hl2,hl3⟩:=htl rfl
     have HN:Hid (Lx.text s frm f (out++Lx.one c) (i+2)=R):=Lib.hid (by rw [← hst]; simp)
     clear hst
     unfold vTold at htd
     go_wp2_with fail
     refine htd.mono ?_
     rintro e w' ⟨rfl,rfl⟩
     clear htd
     have hcv:=one_conv wr c hl2 hl3
     have hone:=one_size c
     have hsz2:Hid ((out++Lx.one c).size≤i+2):=Lib.hid (by rw [ByteArray.size_append,one_size]; omega)
     have HB2:Hid (BX w (wr.alloc (.cells #[.int .u8 c] 5))):=Lib.hid (HB.out.below ((Below.refl _ _).alloc (Nat.le_refl _) _))
     go_wp2_with fail
     go_roundw
     case rel=>exact ⟨i+2,f,_,by go_num,by omega,by omega,rfl,hsz2.out,by omega,HN,HB2⟩
     case measure=>simp [intOf]; omega
   rw [c1,c2,c3] at hst
   have HN:Hid (Lx.text s frm f (out++s.extract i (i+1)) (i+1)=R):=Lib.hid (by rw [← hst]; simp [Lx.cut])
   have hsz:Hid ((out++s.extract i (i+1)).size≤i+1):=Lib.hid (by simp; omega)
   clear hst
   go_wp2_with fail
   go_roundw
   case rel=>exact ⟨i+1,f,_,by go_num,by omega,by omega,rfl,hsz.out,by omega,HN,HB⟩
   case measure=>simp [intOf]; omega
  ·have hv:Hid (R=Lx.bad 11 frm):=Lib.hid (by rw [← HR.out,text_end _ _ _ _ _ (by omega)])
   clear HR
   go_wp2_with fail
   refine (bad_any 11 frm _).mono ?_
   rintro e vb ⟨rfl,hbb⟩
   have HBX:=Lib.hid (HB.out.below hbb)
   have g0:=HBX.out.1
   clear hbb
   go_wp2_with (refine list_store_row rfl 136 _ _ rfl w.heap.size rfl _ rfl _ 136 g0 rfl found_size (by simp [Value.oneCell']) ?_)
   exact bodyPost_ret (results_cell_row rfl _ _ w.heap.size 136 _ (0,0) _ rfl (setRow_heap _ _ _ _ _ _ g0) Tryd.underlying136 rfl found_size) rfl ⟨by rw [hv.out]; first | rfl | (simp [vFound,Lx.bad]; done) | (simp [vFound,Lx.bad]; omega),HBX.out.fin⟩
end Go.Proofs.YtjbggogbnckllaaDoor
end
section
set_option maxRecDepth 100000
namespace Go.Proofs.YtjbggogbnckllaaDoor
open Go.RowKit
set_option linter.unusedVariables false
set_option linter.unusedSimpArgs false
theorem action_end (s:ByteArray) (frm f o i:Nat) (h:s.size≤i):Lx.action s frm f o i=Lx.bad 11 frm:=by
 cases f with
 | zero=>rfl
 | succ f=>rw [Lx.action,if_pos h]
theorem action_open (s:ByteArray) (frm f o i:Nat) (h:i < s.size) (hc:(((s[i].toNat:Nat):Int) == 123)=true):Lx.action s frm (f+1) o i=if 4 < o+1 then Lx.bad 13 i else Lx.action s frm f (o+1) (i+1):=by
 have e:((s[i].toNat:Nat):Int)=123:=by simpa using hc
 rw [Lx.action,if_neg (by omega),Lx.at_of h,e]
 simp
theorem action_shut (s:ByteArray) (frm f o i:Nat) (h:i < s.size) (ho:o≤4) (hc:(((s[i].toNat:Nat):Int) == 125)=true):Lx.action s frm (f+1) o i =
  if o - 1=0 then (if frm+1+200 < i then Lx.bad 12 frm else ⟨9,Lx.cut s (frm+1) i,i+1,0,0⟩) else Lx.action s frm f (o - 1) (i+1):=by
 have e:((s[i].toNat:Nat):Int)=125:=by simpa using hc
 rw [Lx.action,if_neg (by omega),Lx.at_of h,e]
 simp
 intro h; omega
theorem action_other (s:ByteArray) (frm f o i:Nat) (h:i < s.size) (h1:1≤o) (ho:o≤4) (c1:(((s[i].toNat:Nat):Int) == 123)=false) (c2:(((s[i].toNat:Nat):Int) == 125)=false):Lx.action s frm (f+1) o i=Lx.action s frm f o (i+1):=by
 rw [Lx.action,if_neg (by omega),Lx.at_of h,c1,c2]
 simp
 rw [if_neg (by omega),if_neg (by omega)]
set_option maxRecDepth 100000 in
set_option maxHeartbeats 16000000 in
theorem action_any (s:ByteArray) (frm:Nat) (w:World) (hs:s.size≤4000) (hf:frm < s.size) (h123:Lx.at_ s frm=123) :
  Calls Tryd.prog 102 #[.string s,.int .i64 frm] w fun e w'=>e=.returned (vFound (Lx.action s frm s.size 0 frm))∧Below w.heap.size w w':=by
 obtain ⟨R,hR⟩:∃ R,Lx.action s frm s.size 0 frm=R:=⟨_,rfl⟩
 rw [hR]
 have HR0:=Lib.hid hR
 have h0:=BX.start w
 have H123:=Lib.hid h123
 clear hR h123
 go_enter Tryd.func102,Tryd.ntmps102
 go_wp2_with fail
 generalize (w.alloc (.cells #[.int .i64 0,.string ⟨#[]⟩,.int .i64 0,.int .i64 0,.int .i64 0] 136))=W0 at h0 ⊢
 have H0:=Lib.hid h0
 clear h0
 go_loop [5,6] (fun t i=>∃ (k f o:Nat),i=.int .i64 k∧frm≤k∧k≤s.size∧t=.int .i64 o∧o≤4∧(frm < k→1≤o)∧s.size≤k+f∧Hid (Lx.action s frm f o k=R)) (fun _ i=>s.size - (intOf i).toNat)
 case atStart=>exact ⟨frm,s.size,0,rfl,Nat.le_refl _,by omega,rfl,by omega,fun h=>by omega,by omega,HR0⟩
 case round =>
  clear HR0
  obtain ⟨i,f,o,rfl,hk1,hk2,rfl,ho4,ho1,hf2,HR⟩:=hrel
  have HO1:=Lib.hid ho1
  clear ho1
  by_cases hlt:i < s.size
  ·obtain ⟨f,rfl⟩:∃ g,f=g+1:=⟨f - 1,by omega⟩
   cases c1:(((s[i].toNat:Nat):Int) == 123)
   case true =>
    have hst:=(action_open s frm f o i hlt c1).symm.trans HR.out
    have c2:(((s[i].toNat:Nat):Int) == 125)=false:=by
     have e:((s[i].toNat:Nat):Int)=123:=by simpa using c1
     rw [e]; rfl
    clear HR
    by_cases h4:4 < o+1
    ·have hd:decide ((4:Int) < (o:Int)+1)=true:=by simp; omega
     have hv:Hid (R=Lx.bad 13 i):=Lib.hid (by rw [← hst,if_pos h4])
     clear hst
     go_wp2_with fail
     refine (bad_any 13 i _).mono ?_
     rintro e vb ⟨rfl,hbb⟩
     have HBX:=Lib.hid (H0.out.below hbb)
     have g0:=HBX.out.1
     clear hbb
     go_wp2_with (refine list_store_row rfl 136 _ _ rfl w.heap.size rfl _ rfl _ 136 g0 rfl found_size (by simp [Value.oneCell']) ?_)
     exact bodyPost_ret (results_cell_row rfl _ _ w.heap.size 136 _ (0,0) _ rfl (setRow_heap _ _ _ _ _ _ g0) Tryd.underlying136 rfl found_size) rfl ⟨by rw [hv.out]; first | rfl | (simp [vFound,Lx.bad]; done) | (simp [vFound,Lx.bad]; omega),HBX.out.fin⟩
    ·have hd:decide ((4:Int) < (o:Int)+1)=false:=by simp; omega
     have hz:(((o:Int)+1) == 0)=false:=by simp; omega
     have HN:Hid (Lx.action s frm f (o+1) (i+1)=R):=Lib.hid (by rw [← hst,if_neg h4])
     clear hst
     go_wp2_with fail
     go_round
     case rel=>exact ⟨i+1,f,o+1,by go_num,by omega,by omega,by go_num,by omega,fun h=>by omega,by omega,HN⟩
     case measure=>simp [intOf]; omega
   have h1o:1≤o:=HO1.out (by
    rcases Nat.lt_or_ge frm i with h | h
    ·exact h
    ·exfalso
     obtain rfl:i=frm:=by omega
     have:=H123.out
     rw [Lx.at_of hlt] at this
     rw [this] at c1
     cases c1)
   have hd:decide ((4:Int) < (o:Int))=false:=by simp; omega
   have hd':decide (4 < o)=false:=by simp; omega
   cases c2:(((s[i].toNat:Nat):Int) == 125)
   case true =>
    have hst:=(action_shut s frm f o i hlt ho4 c2).symm.trans HR.out
    clear HR
    by_cases h1:o=1
    ·subst h1
     have hfi:frm < i:=by
      rcases Nat.lt_or_ge frm i with h | h
      ·exact h
      ·exfalso
       obtain rfl:i=frm:=by omega
       have:=H123.out
       rw [Lx.at_of hlt] at this
       rw [this] at c1
       cases c1
     have hone:((1:Nat):Int)=1:=rfl
     simp only [hone]
     clear hone hd hd'
     have hcut:=cut_size s (a:=frm+1) (i:=i) (by omega)
     by_cases h2:frm+1+200 < i
     ·have hd2:decide ((200:Int) < (i:Int) - (frm:Int) - 1)=true:=by simp; omega
      have hv:Hid (R=Lx.bad 12 frm):=Lib.hid (by rw [← hst]; simp [h2])
      clear hst
      go_wp2_with fail
      refine (bad_any 12 frm _).mono ?_
      rintro e vb ⟨rfl,hbb⟩
      have HBX:=Lib.hid (H0.out.below hbb)
      have g0:=HBX.out.1
      clear hbb
      go_wp2_with (refine list_store_row rfl 136 _ _ rfl w.heap.size rfl _ rfl _ 136 g0 rfl found_size (by simp [Value.oneCell']) ?_)
      exact bodyPost_ret (results_cell_row rfl _ _ w.heap.size 136 _ (0,0) _ rfl (setRow_heap _ _ _ _ _ _ g0) Tryd.underlying136 rfl found_size) rfl ⟨by rw [hv.out]; first | rfl | (simp [vFound,Lx.bad]; done) | (simp [vFound,Lx.bad]; omega),HBX.out.fin⟩
     ·have hd2:decide ((200:Int) < (i:Int) - (frm:Int) - 1)=false:=by simp; omega
      have hv:Hid (R=⟨9,Lx.cut s (frm+1) i,i+1,0,0⟩):=Lib.hid (by rw [← hst]; simp [h2])
      clear hst
      have g0:=H0.out.1
      go_wp2_with (refine list_store_row rfl 136 _ _ rfl w.heap.size rfl _ rfl _ 136 g0 rfl found_size (by simp [Value.oneCell']) ?_)
      exact bodyPost_ret (results_cell_row rfl _ _ w.heap.size 136 _ (0,0) _ rfl (setRow_heap _ _ _ _ _ _ g0) Tryd.underlying136 rfl found_size) rfl ⟨by rw [hv.out]; first | rfl | (simp [vFound,Lx.bad]; done) | (simp [vFound,Lx.bad]; omega),H0.out.fin⟩
    ·have hz:(((o:Int) - 1) == 0)=false:=by simp; omega
     have HN:Hid (Lx.action s frm f (o - 1) (i+1)=R):=Lib.hid (by rw [← hst,if_neg (by omega)])
     clear hst
     go_wp2_with fail
     go_round
     case rel=>exact ⟨i+1,f,o - 1,by go_num,by omega,by omega,by congr 1; omega,by omega,fun h=>by omega,by omega,HN⟩
     case measure=>simp [intOf]; omega
   have hst:=(action_other s frm f o i hlt h1o ho4 c1 c2).symm.trans HR.out
   have HN:=Lib.hid hst
   have hz:((o:Int) == 0)=false:=by simp; omega
   clear hst HR
   go_wp2_with fail
   go_round
   case rel=>exact ⟨i+1,f,o,by go_num,by omega,by omega,rfl,by omega,fun h=>by omega,by omega,HN⟩
   case measure=>simp [intOf]; omega
  ·have hv:Hid (R=Lx.bad 11 frm):=Lib.hid (by rw [← HR.out,action_end _ _ _ _ _ (by omega)])
   clear HR
   go_wp2_with fail
   refine (bad_any 11 frm _).mono ?_
   rintro e vb ⟨rfl,hbb⟩
   have HBX:=Lib.hid (H0.out.below hbb)
   have g0:=HBX.out.1
   clear hbb
   go_wp2_with (refine list_store_row rfl 136 _ _ rfl w.heap.size rfl _ rfl _ 136 g0 rfl found_size (by simp [Value.oneCell']) ?_)
   exact bodyPost_ret (results_cell_row rfl _ _ w.heap.size 136 _ (0,0) _ rfl (setRow_heap _ _ _ _ _ _ g0) Tryd.underlying136 rfl found_size) rfl ⟨by rw [hv.out]; first | rfl | (simp [vFound,Lx.bad]; done) | (simp [vFound,Lx.bad]; omega),HBX.out.fin⟩
end Go.Proofs.YtjbggogbnckllaaDoor
end
