/-
  The walk of the reference's lexer: what stands at a byte.
  Plain laws of the reference's lexer: where what stands at a byte ends, where it is bad.
  The walk of the reference's lexer: all marks of a text.
-/
import Derived.Test.YtjbggogbnckllaaDoorAd
import Derived.Test.YtjbggogbnckllaaDoorAa
section
set_option maxRecDepth 100000
namespace Go.Proofs.YtjbggogbnckllaaDoor
open Go.RowKit
set_option linter.unusedVariables false
set_option linter.unusedSimpArgs false
theorem next_step (s:ByteArray) (i:Nat) (h:i < s.size):Lx.next s i =
 if (((s[i].toNat:Nat):Int) == 32)||(((s[i].toNat:Nat):Int) == 9)||(((s[i].toNat:Nat):Int) == 10)||(((s[i].toNat:Nat):Int) == 13) then ⟨-1,⟨#[]⟩,i+1,0,0⟩
 else if (((s[i].toNat:Nat):Int) == 35) then ⟨-1,⟨#[]⟩,Lx.run s (fun c=>c != 10) s.size i,0,0⟩
 else if Lx.letter ((s[i].toNat:Nat):Int) then
  if i+32 < Lx.run s (fun c=>Lx.letter c||Lx.digit c) s.size i then Lx.bad 12 i else ⟨1,Lx.cut s i (Lx.run s (fun c=>Lx.letter c||Lx.digit c) s.size i),Lx.run s (fun c=>Lx.letter c||Lx.digit c) s.size i,0,0⟩
 else if (((s[i].toNat:Nat):Int) == 37) then Lx.word s i
 else if (((s[i].toNat:Nat):Int) == 34) then Lx.text s i s.size ByteArray.empty (i+1)
 else if (((s[i].toNat:Nat):Int) == 91) then Lx.cls s i s.size (fun _=>false) false (-1) (i+1)
 else if (((s[i].toNat:Nat):Int) == 123) then Lx.action s i s.size 0 i
 else if (((s[i].toNat:Nat):Int) == 43) then ⟨5,⟨#[]⟩,i+1,0,0⟩
 else if (((s[i].toNat:Nat):Int) == 58) then ⟨6,⟨#[]⟩,i+1,0,0⟩
 else if (((s[i].toNat:Nat):Int) == 124) then ⟨7,⟨#[]⟩,i+1,0,0⟩
 else if (((s[i].toNat:Nat):Int) == 59) then ⟨8,⟨#[]⟩,i+1,0,0⟩
 else Lx.bad 10 i:=by
 unfold Lx.next
 rw [Lx.at_of h]
 rfl
theorem run_go (s:ByteArray) (p:Int→Bool) (f i:Nat) (h:i < s.size) (hp:p ((s[i].toNat:Nat):Int)=true):Lx.run s p (f+1) i=Lx.run s p f (i+1):=by
 rw [Lx.run,if_pos ⟨h,by rw [Lx.at_of h]; exact hp⟩]
theorem run_no (s:ByteArray) (p:Int→Bool) (f i:Nat) (h:i < s.size) (hp:p ((s[i].toNat:Nat):Int)=false):Lx.run s p f i=i:=by
 cases f with
 | zero=>rfl
 | succ f=>rw [Lx.run,if_neg (fun h2=>by rw [Lx.at_of h,hp] at h2; exact absurd h2.2 (by decide))]
theorem run_end (s:ByteArray) (p:Int→Bool) (f i:Nat) (h:¬ i < s.size):Lx.run s p f i=i:=by
 cases f with
 | zero=>rfl
 | succ f=>rw [Lx.run,if_neg (fun h2=>h h2.1)]
theorem run_ge (s:ByteArray) (p:Int→Bool) (f i:Nat):i≤Lx.run s p f i:=by
 induction f generalizing i with
 | zero=>exact Nat.le_refl _
 | succ f ih =>
  rw [Lx.run]
  split
  ·exact Nat.le_trans (Nat.le_succ _) (ih _)
  ·exact Nat.le_refl _
theorem run_le (s:ByteArray) (p:Int→Bool) (f i:Nat) (h:i≤s.size):Lx.run s p f i≤s.size:=by
 induction f generalizing i with
 | zero=>exact h
 | succ f ih =>
  rw [Lx.run]
  split
  ·rename_i h2; exact ih _ h2.1
  ·exact h
/-- A class is read. -/
def ClassOK (s:ByteArray) (i:Nat):Prop:=∀ w:World,Calls Tryd.prog 101 #[.string s,.int .i64 i] w fun e w'=>e=.returned (vFound (Lx.cls s i s.size (fun _=>false) false (-1) (i+1)))∧Below w.heap.size w w'
set_option maxRecDepth 100000 in
set_option maxHeartbeats 32000000 in
theorem next_any (s:ByteArray) (i:Nat) (w:World) (hs:s.size≤4000) (hi:i < s.size) (HC:Lx.at_ s i=91→ClassOK s i) :
  Calls Tryd.prog 82 #[.string s,.int .i64 i] w fun e w'=>e=.returned (vFound (Lx.next s i))∧Below w.heap.size w w':=by
 obtain ⟨R,hR⟩:∃ R,Lx.next s i=R:=⟨_,rfl⟩
 rw [hR]
 have hst:=(next_step s i hi).symm.trans hR
 have h0:=BX.start w
 have HCC:=Lib.hid HC
 clear hR HC
 cases c1:(((s[i].toNat:Nat):Int) == 32)
 case true =>
  rw [c1] at hst
  have hv:Hid (R=⟨-1,⟨#[]⟩,i+1,0,0⟩):=Lib.hid (by rw [← hst]; simp)
  clear hst
  go_enter Tryd.func82,Tryd.ntmps82
  go_wp2_with fail
  exact bodyPost_ret (v:=vFound ⟨-1,⟨#[]⟩,i+1,0,0⟩) (by simp [results,Tryd.results82,go_sem,vFound]) rfl ⟨by rw [hv.out],(Below.refl _ _).alloc (Nat.le_refl _) _⟩
 cases c2:(((s[i].toNat:Nat):Int) == 9)
 case true =>
  rw [c1,c2] at hst
  have hv:Hid (R=⟨-1,⟨#[]⟩,i+1,0,0⟩):=Lib.hid (by rw [← hst]; simp)
  clear hst
  go_enter Tryd.func82,Tryd.ntmps82
  go_wp2_with fail
  exact bodyPost_ret (v:=vFound ⟨-1,⟨#[]⟩,i+1,0,0⟩) (by simp [results,Tryd.results82,go_sem,vFound]) rfl ⟨by rw [hv.out],(Below.refl _ _).alloc (Nat.le_refl _) _⟩
 cases c3:(((s[i].toNat:Nat):Int) == 10)
 case true =>
  rw [c1,c2,c3] at hst
  have hv:Hid (R=⟨-1,⟨#[]⟩,i+1,0,0⟩):=Lib.hid (by rw [← hst]; simp)
  clear hst
  go_enter Tryd.func82,Tryd.ntmps82
  go_wp2_with fail
  exact bodyPost_ret (v:=vFound ⟨-1,⟨#[]⟩,i+1,0,0⟩) (by simp [results,Tryd.results82,go_sem,vFound]) rfl ⟨by rw [hv.out],(Below.refl _ _).alloc (Nat.le_refl _) _⟩
 cases c4:(((s[i].toNat:Nat):Int) == 13)
 case true =>
  rw [c1,c2,c3,c4] at hst
  have hv:Hid (R=⟨-1,⟨#[]⟩,i+1,0,0⟩):=Lib.hid (by rw [← hst]; simp)
  clear hst
  go_enter Tryd.func82,Tryd.ntmps82
  go_wp2_with fail
  exact bodyPost_ret (v:=vFound ⟨-1,⟨#[]⟩,i+1,0,0⟩) (by simp [results,Tryd.results82,go_sem,vFound]) rfl ⟨by rw [hv.out],(Below.refl _ _).alloc (Nat.le_refl _) _⟩
 rw [c1,c2,c3,c4] at hst
 cases c5:(((s[i].toNat:Nat):Int) == 35)
 case true =>
  rw [c5] at hst
  obtain ⟨T,hT⟩:∃ T,Lx.run s (fun c=>c != 10) s.size i=T:=⟨_,rfl⟩
  rw [hT] at hst
  have HT0:=Lib.hid hT
  have hv:Hid (R=⟨-1,⟨#[]⟩,T,0,0⟩):=Lib.hid (by rw [← hst]; simp)
  have hd0:decide ((i:Int) < (s.size:Int))=true:=by simp; omega
  clear hst hT
  go_enter Tryd.func82,Tryd.ntmps82
  go_wp2_with fail
  generalize (w.alloc (.cells #[.int .i64 0,.string ⟨#[]⟩,.int .i64 0,.int .i64 0,.int .i64 0] 136))=W0 at h0 ⊢
  have H0:=Lib.hid h0
  clear h0
  go_loop [6] (fun t=>∃ (k f:Nat),t=.int .i64 k∧i≤k∧k≤s.size∧s.size≤k+f∧Hid (Lx.run s (fun c=>c != 10) f k=T)) (fun t=>s.size - (intOf t).toNat)
  case atStart=>exact ⟨i,s.size,rfl,by omega,by omega,by omega,HT0⟩
  case round =>
   obtain ⟨k,f,rfl,hk1,hk2,hf,HT⟩:=hrel
   by_cases hlt:k < s.size
   ·obtain ⟨f,rfl⟩:∃ g,f=g+1:=⟨f - 1,by omega⟩
    cases d1:(((s[k].toNat:Nat):Int) == 10)
    case true =>
     have hv2:Hid (R=⟨-1,⟨#[]⟩,k,0,0⟩):=Lib.hid (by rw [hv.out,← HT.out,run_no _ _ _ _ hlt (by rw [bne,d1]; rfl)])
     clear hv HT
     have g0:=H0.out.1
     go_wp2_with (refine list_store_row rfl 136 _ _ rfl w.heap.size rfl _ rfl _ 136 g0 rfl found_size (by simp [Value.oneCell']) ?_)
     exact bodyPost_ret (results_cell_row rfl _ _ w.heap.size 136 _ (0,0) _ rfl (setRow_heap _ _ _ _ _ _ g0) Tryd.underlying136 rfl found_size) rfl ⟨by rw [hv2.out]; first | rfl | (simp [vFound,Lx.bad]; done) | (simp [vFound,Lx.bad]; omega),H0.out.fin⟩
    case false =>
     have HN:Hid (Lx.run s (fun c=>c != 10) f (k+1)=T):=Lib.hid (by rw [← HT.out,run_go _ _ _ _ hlt (by rw [bne,d1]; rfl)])
     clear hv HT
     go_wp2_with fail
     go_round
     case rel=>exact ⟨k+1,f,by go_num,by omega,by omega,by omega,HN⟩
     case measure=>simp [intOf]; omega
   ·obtain rfl:k=s.size:=by omega
    have hv2:Hid (R=⟨-1,⟨#[]⟩,s.size,0,0⟩):=Lib.hid (by rw [hv.out,← HT.out,run_end _ _ _ _ hlt])
    clear hv HT
    have g0:=H0.out.1
    go_wp2_with (refine list_store_row rfl 136 _ _ rfl w.heap.size rfl _ rfl _ 136 g0 rfl found_size (by simp [Value.oneCell']) ?_)
    exact bodyPost_ret (results_cell_row rfl _ _ w.heap.size 136 _ (0,0) _ rfl (setRow_heap _ _ _ _ _ _ g0) Tryd.underlying136 rfl found_size) rfl ⟨by rw [hv2.out]; first | rfl | (simp [vFound,Lx.bad]; done) | (simp [vFound,Lx.bad]; omega),H0.out.fin⟩
 rw [c5] at hst
 have hle:=letter_any ((s[i].toNat:Nat):Int)
 cases c6:Lx.letter ((s[i].toNat:Nat):Int)
 case true =>
  rw [c6] at hst hle
  obtain ⟨T,hT⟩:∃ T,Lx.run s (fun c=>Lx.letter c||Lx.digit c) s.size i=T:=⟨_,rfl⟩
  rw [hT] at hst
  have HT0:=Lib.hid hT
  have hv:Hid (R=if i+32 < T then Lx.bad 12 i else ⟨1,Lx.cut s i T,T,0,0⟩):=Lib.hid (by rw [← hst]; simp)
  clear hst hT c6
  go_enter Tryd.func82,Tryd.ntmps82
  go_wp2_with fail
  generalize (w.alloc (.cells #[.int .i64 0,.string ⟨#[]⟩,.int .i64 0,.int .i64 0,.int .i64 0] 136))=W0 at h0 ⊢
  have H0:=Lib.hid h0
  clear h0
  refine (hle _).mono ?_
  rintro e w' ⟨rfl,rfl⟩
  clear hle
  go_wp2_with fail
  go_loop [7] (fun t=>∃ (k f:Nat),t=.int .i64 k∧i≤k∧k≤s.size∧s.size≤k+f∧Hid (Lx.run s (fun c=>Lx.letter c||Lx.digit c) f k=T)) (fun t=>s.size - (intOf t).toNat)
  case atStart=>exact ⟨i,s.size,rfl,by omega,by omega,by omega,HT0⟩
  case round =>
   clear HT0
   obtain ⟨k,f,rfl,hk1,hk2,hf,HT⟩:=hrel
   by_cases hlt:k < s.size
   ·have hl2:=letter_any ((s[k].toNat:Nat):Int) W0
    have hd2:=digit_any ((s[k].toNat:Nat):Int) W0
    obtain ⟨f,rfl⟩:∃ g,f=g+1:=⟨f - 1,by omega⟩
    cases d1:Lx.letter ((s[k].toNat:Nat):Int)
    case true =>
     rw [d1] at hl2
     have HN:Hid (Lx.run s (fun c=>Lx.letter c||Lx.digit c) f (k+1)=T):=Lib.hid (by rw [← HT.out,run_go _ _ _ _ hlt (by simp [d1])])
     clear hv HT d1 hd2
     go_wp2_with fail
     refine hl2.mono ?_
     rintro e w' ⟨rfl,rfl⟩
     clear hl2
     go_wp2_with fail
     go_round
     case rel=>exact ⟨k+1,f,by go_num,by omega,by omega,by omega,HN⟩
     case measure=>simp [intOf]; omega
    case false =>
     rw [d1] at hl2
     cases d2:Lx.digit ((s[k].toNat:Nat):Int)
     case true =>
      rw [d2] at hd2
      have HN:Hid (Lx.run s (fun c=>Lx.letter c||Lx.digit c) f (k+1)=T):=Lib.hid (by rw [← HT.out,run_go _ _ _ _ hlt (by simp [d2])])
      clear hv HT d1 d2
      go_wp2_with fail
      refine hl2.mono ?_
      rintro e w' ⟨rfl,rfl⟩
      clear hl2
      go_wp2_with fail
      refine hd2.mono ?_
      rintro e w' ⟨rfl,rfl⟩
      clear hd2
      go_wp2_with fail
      go_round
      case rel=>exact ⟨k+1,f,by go_num,by omega,by omega,by omega,HN⟩
      case measure=>simp [intOf]; omega
     case false =>
      rw [d2] at hd2
      have hTk:T=k:=by rw [← HT.out,run_no _ _ _ _ hlt (by simp [d1,d2])]
      subst hTk
      clear HT d1 d2
      by_cases h32:i+32 < T
      ·have hd:decide ((32:Int) < (T:Int) - (i:Int))=true:=by simp; omega
       have hv2:Hid (R=Lx.bad 12 i):=Lib.hid (by rw [hv.out,if_pos h32])
       clear hv
       go_wp2_with fail
       refine hl2.mono ?_
       rintro e w' ⟨rfl,rfl⟩
       clear hl2
       go_wp2_with fail
       refine hd2.mono ?_
       rintro e w' ⟨rfl,rfl⟩
       clear hd2
       go_wp2_with fail
       refine (bad_any 12 i _).mono ?_
       rintro e vb ⟨rfl,hbb⟩
       have HBX:=Lib.hid (H0.out.below hbb)
       have g0:=HBX.out.1
       clear hbb
       go_wp2_with (refine list_store_row rfl 136 _ _ rfl w.heap.size rfl _ rfl _ 136 g0 rfl found_size (by simp [Value.oneCell']) ?_)
       exact bodyPost_ret (results_cell_row rfl _ _ w.heap.size 136 _ (0,0) _ rfl (setRow_heap _ _ _ _ _ _ g0) Tryd.underlying136 rfl found_size) rfl ⟨by rw [hv2.out]; first | rfl | (simp [vFound,Lx.bad]; done) | (simp [vFound,Lx.bad]; omega),HBX.out.fin⟩
      ·have hd:decide ((32:Int) < (T:Int) - (i:Int))=false:=by simp; omega
       have hv2:Hid (R=⟨1,Lx.cut s i T,T,0,0⟩):=Lib.hid (by rw [hv.out,if_neg h32])
       clear hv
       go_wp2_with fail
       refine hl2.mono ?_
       rintro e w' ⟨rfl,rfl⟩
       clear hl2
       go_wp2_with fail
       refine hd2.mono ?_
       rintro e w' ⟨rfl,rfl⟩
       clear hd2
       have g0:=H0.out.1
       go_wp2_with (refine list_store_row rfl 136 _ _ rfl w.heap.size rfl _ rfl _ 136 g0 rfl found_size (by simp [Value.oneCell']) ?_)
       exact bodyPost_ret (results_cell_row rfl _ _ w.heap.size 136 _ (0,0) _ rfl (setRow_heap _ _ _ _ _ _ g0) Tryd.underlying136 rfl found_size) rfl ⟨by rw [hv2.out]; first | rfl | (simp [vFound,Lx.bad]; done) | (simp [vFound,Lx.bad]; omega),H0.out.fin⟩
   ·have hTk:T=k:=by rw [← HT.out,run_end _ _ _ _ hlt]
    subst hTk
    obtain rfl:T=s.size:=by omega
    clear HT
    by_cases h32:i+32 < s.size
    ·have hd:decide ((32:Int) < (s.size:Int) - (i:Int))=true:=by simp; omega
     have hv2:Hid (R=Lx.bad 12 i):=Lib.hid (by rw [hv.out,if_pos h32])
     clear hv
     go_wp2_with fail
     refine (bad_any 12 i _).mono ?_
     rintro e vb ⟨rfl,hbb⟩
     have HBX:=Lib.hid (H0.out.below hbb)
     have g0:=HBX.out.1
     clear hbb
     go_wp2_with (refine list_store_row rfl 136 _ _ rfl w.heap.size rfl _ rfl _ 136 g0 rfl found_size (by simp [Value.oneCell']) ?_)
     exact bodyPost_ret (results_cell_row rfl _ _ w.heap.size 136 _ (0,0) _ rfl (setRow_heap _ _ _ _ _ _ g0) Tryd.underlying136 rfl found_size) rfl ⟨by rw [hv2.out]; first | rfl | (simp [vFound,Lx.bad]; done) | (simp [vFound,Lx.bad]; omega),HBX.out.fin⟩
    ·have hd:decide ((32:Int) < (s.size:Int) - (i:Int))=false:=by simp; omega
     have hv2:Hid (R=⟨1,Lx.cut s i s.size,s.size,0,0⟩):=Lib.hid (by rw [hv.out,if_neg h32])
     clear hv
     have g0:=H0.out.1
     go_wp2_with (refine list_store_row rfl 136 _ _ rfl w.heap.size rfl _ rfl _ 136 g0 rfl found_size (by simp [Value.oneCell']) ?_)
     exact bodyPost_ret (results_cell_row rfl _ _ w.heap.size 136 _ (0,0) _ rfl (setRow_heap _ _ _ _ _ _ g0) Tryd.underlying136 rfl found_size) rfl ⟨by rw [hv2.out]; first | rfl | (simp [vFound,Lx.bad]; done) | (simp [vFound,Lx.bad]; omega),H0.out.fin⟩
 rw [c6] at hst hle
 clear c6
 cases k1:(((s[i].toNat:Nat):Int) == 37)
 case true =>
  rw [k1] at hst
  have hv:Hid (R=Lx.word s i):=Lib.hid (by rw [← hst]; simp)
  clear hst
  go_enter Tryd.func82,Tryd.ntmps82
  go_wp2_with fail
  generalize (w.alloc (.cells #[.int .i64 0,.string ⟨#[]⟩,.int .i64 0,.int .i64 0,.int .i64 0] 136))=W0 at h0 ⊢
  have H0:=Lib.hid h0
  clear h0
  refine (hle _).mono ?_
  rintro e w' ⟨rfl,rfl⟩
  clear hle
  go_wp2_with fail
  refine (word_any s i _ hs hi).mono ?_
  rintro e vb ⟨rfl,hbb⟩
  have HBX:=Lib.hid (H0.out.below hbb)
  have g0:=HBX.out.1
  clear hbb
  simp only [vFound]
  go_wp2_with (refine list_store_row rfl 136 _ _ rfl w.heap.size rfl _ rfl _ 136 g0 rfl found_size (by simp [Value.oneCell']) ?_)
  exact bodyPost_ret (results_cell_row rfl _ _ w.heap.size 136 _ (0,0) _ rfl (setRow_heap _ _ _ _ _ _ g0) Tryd.underlying136 rfl found_size) rfl ⟨by rw [hv.out]; first | rfl | (simp [vFound,Lx.bad]; done) | (simp [vFound,Lx.bad]; omega),HBX.out.fin⟩
 rw [k1] at hst
 cases k2:(((s[i].toNat:Nat):Int) == 34)
 case true =>
  rw [k2] at hst
  have hv:Hid (R=Lx.text s i s.size ByteArray.empty (i+1)):=Lib.hid (by rw [← hst]; simp)
  clear hst
  go_enter Tryd.func82,Tryd.ntmps82
  go_wp2_with fail
  generalize (w.alloc (.cells #[.int .i64 0,.string ⟨#[]⟩,.int .i64 0,.int .i64 0,.int .i64 0] 136))=W0 at h0 ⊢
  have H0:=Lib.hid h0
  clear h0
  refine (hle _).mono ?_
  rintro e w' ⟨rfl,rfl⟩
  clear hle
  go_wp2_with fail
  refine (text_any s i _ hs hi).mono ?_
  rintro e vb ⟨rfl,hbb⟩
  have HBX:=Lib.hid (H0.out.below hbb)
  have g0:=HBX.out.1
  clear hbb
  simp only [vFound]
  go_wp2_with (refine list_store_row rfl 136 _ _ rfl w.heap.size rfl _ rfl _ 136 g0 rfl found_size (by simp [Value.oneCell']) ?_)
  exact bodyPost_ret (results_cell_row rfl _ _ w.heap.size 136 _ (0,0) _ rfl (setRow_heap _ _ _ _ _ _ g0) Tryd.underlying136 rfl found_size) rfl ⟨by rw [hv.out]; first | rfl | (simp [vFound,Lx.bad]; done) | (simp [vFound,Lx.bad]; omega),HBX.out.fin⟩
 rw [k2] at hst
 cases k3:(((s[i].toNat:Nat):Int) == 91)
 case true =>
  rw [k3] at hst
  have HH:ClassOK s i:=HCC.out (by rw [Lx.at_of hi]; simpa using k3)
  unfold ClassOK at HH
  have hv:Hid (R=Lx.cls s i s.size (fun _=>false) false (-1) (i+1)):=Lib.hid (by rw [← hst]; simp)
  clear hst
  go_enter Tryd.func82,Tryd.ntmps82
  go_wp2_with fail
  generalize (w.alloc (.cells #[.int .i64 0,.string ⟨#[]⟩,.int .i64 0,.int .i64 0,.int .i64 0] 136))=W0 at h0 ⊢
  have H0:=Lib.hid h0
  clear h0
  refine (hle _).mono ?_
  rintro e w' ⟨rfl,rfl⟩
  clear hle
  go_wp2_with fail
  refine (HH _).mono ?_
  rintro e vb ⟨rfl,hbb⟩
  have HBX:=Lib.hid (H0.out.below hbb)
  have g0:=HBX.out.1
  clear hbb
  simp only [vFound]
  go_wp2_with (refine list_store_row rfl 136 _ _ rfl w.heap.size rfl _ rfl _ 136 g0 rfl found_size (by simp [Value.oneCell']) ?_)
  exact bodyPost_ret (results_cell_row rfl _ _ w.heap.size 136 _ (0,0) _ rfl (setRow_heap _ _ _ _ _ _ g0) Tryd.underlying136 rfl found_size) rfl ⟨by rw [hv.out]; first | rfl | (simp [vFound,Lx.bad]; done) | (simp [vFound,Lx.bad]; omega),HBX.out.fin⟩
 rw [k3] at hst
 cases k4:(((s[i].toNat:Nat):Int) == 123)
 case true =>
  rw [k4] at hst
  have h123:Lx.at_ s i=123:=by rw [Lx.at_of hi]; simpa using k4
  have hv:Hid (R=Lx.action s i s.size 0 i):=Lib.hid (by rw [← hst]; simp)
  clear hst
  go_enter Tryd.func82,Tryd.ntmps82
  go_wp2_with fail
  generalize (w.alloc (.cells #[.int .i64 0,.string ⟨#[]⟩,.int .i64 0,.int .i64 0,.int .i64 0] 136))=W0 at h0 ⊢
  have H0:=Lib.hid h0
  clear h0
  refine (hle _).mono ?_
  rintro e w' ⟨rfl,rfl⟩
  clear hle
  go_wp2_with fail
  refine (action_any s i _ hs hi h123).mono ?_
  rintro e vb ⟨rfl,hbb⟩
  have HBX:=Lib.hid (H0.out.below hbb)
  have g0:=HBX.out.1
  clear hbb
  simp only [vFound]
  go_wp2_with (refine list_store_row rfl 136 _ _ rfl w.heap.size rfl _ rfl _ 136 g0 rfl found_size (by simp [Value.oneCell']) ?_)
  exact bodyPost_ret (results_cell_row rfl _ _ w.heap.size 136 _ (0,0) _ rfl (setRow_heap _ _ _ _ _ _ g0) Tryd.underlying136 rfl found_size) rfl ⟨by rw [hv.out]; first | rfl | (simp [vFound,Lx.bad]; done) | (simp [vFound,Lx.bad]; omega),HBX.out.fin⟩
 rw [k4] at hst
 cases k5:(((s[i].toNat:Nat):Int) == 43)
 case true =>
  rw [k5] at hst
  have hv:Hid (R=⟨5,⟨#[]⟩,i+1,0,0⟩):=Lib.hid (by rw [← hst]; simp)
  clear hst
  go_enter Tryd.func82,Tryd.ntmps82
  go_wp2_with fail
  generalize (w.alloc (.cells #[.int .i64 0,.string ⟨#[]⟩,.int .i64 0,.int .i64 0,.int .i64 0] 136))=W0 at h0 ⊢
  have H0:=Lib.hid h0
  clear h0
  refine (hle _).mono ?_
  rintro e w' ⟨rfl,rfl⟩
  clear hle
  have g0:=H0.out.1
  go_wp2_with (refine list_store_row rfl 136 _ _ rfl w.heap.size rfl _ rfl _ 136 g0 rfl found_size (by simp [Value.oneCell']) ?_)
  exact bodyPost_ret (results_cell_row rfl _ _ w.heap.size 136 _ (0,0) _ rfl (setRow_heap _ _ _ _ _ _ g0) Tryd.underlying136 rfl found_size) rfl ⟨by rw [hv.out]; first | rfl | (simp [vFound,Lx.bad]; done) | (simp [vFound,Lx.bad]; omega),H0.out.fin⟩
 rw [k5] at hst
 cases k6:(((s[i].toNat:Nat):Int) == 58)
 case true =>
  rw [k6] at hst
  have hv:Hid (R=⟨6,⟨#[]⟩,i+1,0,0⟩):=Lib.hid (by rw [← hst]; simp)
  clear hst
  go_enter Tryd.func82,Tryd.ntmps82
  go_wp2_with fail
  generalize (w.alloc (.cells #[.int .i64 0,.string ⟨#[]⟩,.int .i64 0,.int .i64 0,.int .i64 0] 136))=W0 at h0 ⊢
  have H0:=Lib.hid h0
  clear h0
  refine (hle _).mono ?_
  rintro e w' ⟨rfl,rfl⟩
  clear hle
  have g0:=H0.out.1
  go_wp2_with (refine list_store_row rfl 136 _ _ rfl w.heap.size rfl _ rfl _ 136 g0 rfl found_size (by simp [Value.oneCell']) ?_)
  exact bodyPost_ret (results_cell_row rfl _ _ w.heap.size 136 _ (0,0) _ rfl (setRow_heap _ _ _ _ _ _ g0) Tryd.underlying136 rfl found_size) rfl ⟨by rw [hv.out]; first | rfl | (simp [vFound,Lx.bad]; done) | (simp [vFound,Lx.bad]; omega),H0.out.fin⟩
 rw [k6] at hst
 cases k7:(((s[i].toNat:Nat):Int) == 124)
 case true =>
  rw [k7] at hst
  have hv:Hid (R=⟨7,⟨#[]⟩,i+1,0,0⟩):=Lib.hid (by rw [← hst]; simp)
  clear hst
  go_enter Tryd.func82,Tryd.ntmps82
  go_wp2_with fail
  generalize (w.alloc (.cells #[.int .i64 0,.string ⟨#[]⟩,.int .i64 0,.int .i64 0,.int .i64 0] 136))=W0 at h0 ⊢
  have H0:=Lib.hid h0
  clear h0
  refine (hle _).mono ?_
  rintro e w' ⟨rfl,rfl⟩
  clear hle
  have g0:=H0.out.1
  go_wp2_with (refine list_store_row rfl 136 _ _ rfl w.heap.size rfl _ rfl _ 136 g0 rfl found_size (by simp [Value.oneCell']) ?_)
  exact bodyPost_ret (results_cell_row rfl _ _ w.heap.size 136 _ (0,0) _ rfl (setRow_heap _ _ _ _ _ _ g0) Tryd.underlying136 rfl found_size) rfl ⟨by rw [hv.out]; first | rfl | (simp [vFound,Lx.bad]; done) | (simp [vFound,Lx.bad]; omega),H0.out.fin⟩
 rw [k7] at hst
 cases k8:(((s[i].toNat:Nat):Int) == 59)
 case true =>
  rw [k8] at hst
  have hv:Hid (R=⟨8,⟨#[]⟩,i+1,0,0⟩):=Lib.hid (by rw [← hst]; simp)
  clear hst
  go_enter Tryd.func82,Tryd.ntmps82
  go_wp2_with fail
  generalize (w.alloc (.cells #[.int .i64 0,.string ⟨#[]⟩,.int .i64 0,.int .i64 0,.int .i64 0] 136))=W0 at h0 ⊢
  have H0:=Lib.hid h0
  clear h0
  refine (hle _).mono ?_
  rintro e w' ⟨rfl,rfl⟩
  clear hle
  have g0:=H0.out.1
  go_wp2_with (refine list_store_row rfl 136 _ _ rfl w.heap.size rfl _ rfl _ 136 g0 rfl found_size (by simp [Value.oneCell']) ?_)
  exact bodyPost_ret (results_cell_row rfl _ _ w.heap.size 136 _ (0,0) _ rfl (setRow_heap _ _ _ _ _ _ g0) Tryd.underlying136 rfl found_size) rfl ⟨by rw [hv.out]; first | rfl | (simp [vFound,Lx.bad]; done) | (simp [vFound,Lx.bad]; omega),H0.out.fin⟩
 rw [k8] at hst
 have hv:Hid (R=Lx.bad 10 i):=Lib.hid (by rw [← hst]; simp)
 clear hst
 go_enter Tryd.func82,Tryd.ntmps82
 go_wp2_with fail
 generalize (w.alloc (.cells #[.int .i64 0,.string ⟨#[]⟩,.int .i64 0,.int .i64 0,.int .i64 0] 136))=W0 at h0 ⊢
 have H0:=Lib.hid h0
 clear h0
 refine (hle _).mono ?_
 rintro e w' ⟨rfl,rfl⟩
 clear hle
 go_wp2_with fail
 refine (bad_any 10 i _).mono ?_
 rintro e vb ⟨rfl,hbb⟩
 have HBX:=Lib.hid (H0.out.below hbb)
 have g0:=HBX.out.1
 clear hbb
 go_wp2_with (refine list_store_row rfl 136 _ _ rfl w.heap.size rfl _ rfl _ 136 g0 rfl found_size (by simp [Value.oneCell']) ?_)
 exact bodyPost_ret (results_cell_row rfl _ _ w.heap.size 136 _ (0,0) _ rfl (setRow_heap _ _ _ _ _ _ g0) Tryd.underlying136 rfl found_size) rfl ⟨by rw [hv.out]; first | rfl | (simp [vFound,Lx.bad]; done) | (simp [vFound,Lx.bad]; omega),HBX.out.fin⟩
end Go.Proofs.YtjbggogbnckllaaDoor
end
section
set_option maxRecDepth 100000
namespace Go.Proofs.YtjbggogbnckllaaDoor
open Go.RowKit
set_option linter.unusedVariables false
set_option linter.unusedSimpArgs false
/-- It ends behind i and within the text; the bad place lies within the text. -/
def GoodF (s:ByteArray) (i:Nat) (F:Lx.Found):Prop:=(F.code=0→i < F.to∧F.to≤s.size)∧F.bad≤s.size
theorem good_bad (s:ByteArray) (i:Nat) (c:Int) (b:Nat) (hc:c≠0) (hb:b≤s.size):GoodF s i (Lx.bad c b):=⟨fun h=>absurd h hc,hb⟩
theorem good_to (s:ByteArray) (i:Nat) (k:Int) (t:ByteArray) (e:Nat) (h1:i < e) (h2:e≤s.size):GoodF s i ⟨k,t,e,0,0⟩:=⟨fun _=>⟨h1,h2⟩,Nat.zero_le _⟩
theorem text_good (s:ByteArray) (frm:Nat) (hf:frm < s.size):∀ (f:Nat) (out:ByteArray) (i:Nat),frm < i→GoodF s frm (Lx.text s frm f out i):=by
 intro f
 induction f with
 | zero=>intro out i _; exact good_bad _ _ _ _ (by decide) (by omega)
 | succ f ih =>
  intro out i hi
  by_cases hlt:i < s.size
  ·rw [text_step _ _ _ _ _ hlt]
   split
   ·exact good_bad _ _ _ _ (by decide) (by omega)
   ·split
    ·split
     ·exact good_bad _ _ _ _ (by decide) (by omega)
     ·split
      ·exact good_bad _ _ _ _ (by decide) (by omega)
      ·exact good_to _ _ _ _ _ (by omega) (by omega)
    ·split
     ·split
      ·exact ih _ _ (by omega)
      ·exact good_bad _ _ _ _ (by decide) (by omega)
     ·exact ih _ _ (by omega)
  ·rw [text_end _ _ _ _ _ (by omega)]
   exact good_bad _ _ _ _ (by decide) (by omega)
theorem cls_good (s:ByteArray) (frm:Nat) (hf:frm < s.size):∀ (f:Nat) (has:Int→Bool) (any:Bool) (single:Int) (i:Nat),frm < i→GoodF s frm (Lx.cls s frm f has any single i):=by
 intro f
 induction f with
 | zero=>intro has any single i _; exact good_bad _ _ _ _ (by decide) (by omega)
 | succ f ih =>
  intro has any single i hi
  rw [Lx.cls]
  by_cases hlt:s.size≤i
  ·rw [if_pos hlt]; exact good_bad _ _ _ _ (by decide) (by omega)
  rw [if_neg hlt]
  simp only
  cases c1:(Lx.at_ s i == 10)
  case true=>simp only [if_true]; exact good_bad _ _ _ _ (by decide) (by omega)
  cases c2:(Lx.at_ s i == 93)
  case true =>
   simp only [if_true,Bool.false_eq_true,if_false]
   split
   ·exact good_to _ _ _ _ _ (by omega) (by omega)
   ·exact good_bad _ _ _ _ (by decide) (by omega)
  simp only [Bool.false_eq_true,if_false]
  cases c3:(Lx.at_ s i == 45)
  case true =>
   simp only [Bool.true_and,if_true]
   cases d1:decide (single < 0)
   case true=>simp only [if_true]; exact good_bad _ _ _ _ (by decide) (by omega)
   simp only [Bool.false_eq_true,if_false]
   cases d2:(decide (s.size≤i+1)||Lx.at_ s (i+1) == 10)
   case true=>simp only [if_true]; exact good_bad _ _ _ _ (by decide) (by omega)
   have hj:i+1 < s.size:=by
    simp only [Bool.or_eq_false_iff,decide_eq_false_iff_not] at d2
    omega
   cases d3:(Lx.at_ s (i+1) == 93)
   case true=>simp only [if_true,Bool.false_eq_true,if_false]; exact good_bad _ _ _ _ (by decide) (by omega)
   simp only [Bool.false_eq_true,if_false]
   cases c4:(Lx.at_ s (i+1) == 92)<;>cases c5:(Lx.told s (i+1) true).2
   all_goals simp only [Bool.true_and,Bool.false_and,Bool.not_true,Bool.not_false,Bool.false_eq_true,if_false,if_true]
   all_goals first | exact good_bad _ _ _ _ (by decide) (by omega) | (split<;>first | exact ih _ _ _ _ (by omega) | exact good_bad _ _ _ _ (by decide) (by omega))
  case false =>
   simp only [Bool.false_and,Bool.false_eq_true,if_false]
   cases c4:(Lx.at_ s i == 92)<;>cases c5:(Lx.told s i true).2
   all_goals simp only [Bool.true_and,Bool.false_and,Bool.not_true,Bool.not_false,Bool.false_eq_true,if_false,if_true]
   all_goals first | exact ih _ _ _ _ (by omega) | exact good_bad _ _ _ _ (by decide) (by omega)
theorem action_good (s:ByteArray) (frm:Nat) (hf:frm < s.size):∀ (f o i:Nat),frm≤i→GoodF s frm (Lx.action s frm f o i):=by
 intro f
 induction f with
 | zero=>intro o i _; exact good_bad _ _ _ _ (by decide) (by omega)
 | succ f ih =>
  intro o i hi
  rw [Lx.action]
  by_cases hlt:s.size≤i
  ·rw [if_pos hlt]; exact good_bad _ _ _ _ (by decide) (by omega)
  rw [if_neg hlt]
  simp only
  generalize (if (Lx.at_ s i == 123)=true then o+1 else o)=o1
  generalize (if (Lx.at_ s i == 125)=true then o1 - 1 else o1)=o2
  by_cases h1:4 < o1
  ·rw [if_pos h1]; exact good_bad _ _ _ _ (by decide) (by omega)
  rw [if_neg h1]
  by_cases h2:o2=0
  ·rw [if_pos h2]
   by_cases h3:frm+1+200 < i
   ·rw [if_pos h3]; exact good_bad _ _ _ _ (by decide) (by omega)
   ·rw [if_neg h3]; exact good_to _ _ _ _ _ (by omega) (by omega)
  ·rw [if_neg h2]; exact ih _ _ (by omega)
theorem word_good (s:ByteArray) (frm:Nat) (hf:frm < s.size):GoodF s frm (Lx.word s frm):=by
 by_cases hm:wordT s frm ∈ Lx.words
 ·rw [word_in rfl hm]
  refine good_to _ _ _ _ _ (by omega) ?_
  unfold wordT
  by_cases h:frm+1 < s.size∧Lx.at_ s (frm+1)=37
  ·rw [if_pos h]; show frm+1+1≤s.size; omega
  ·rw [if_neg h]
   have h1:=run_ge s Lx.lower s.size (frm+1)
   have h2:=run_le s Lx.lower s.size (frm+1) (by omega)
   rw [cut_size s h2]
   omega
 ·rw [word_out rfl hm]
  exact good_bad _ _ _ _ (by decide) (by omega)
theorem run_gt (s:ByteArray) (p:Int→Bool) (i:Nat) (hi:i < s.size) (hp:p ((s[i].toNat:Nat):Int)=true):i < Lx.run s p s.size i:=by
 have h:∀ m,m=s.size→i < Lx.run s p m i:=by
  intro m hm
  obtain ⟨n,rfl⟩:∃ n,m=n+1:=⟨m - 1,by omega⟩
  rw [run_go _ _ _ _ hi hp]
  exact run_ge _ _ _ _
 exact h _ rfl
theorem next_good (s:ByteArray) (i:Nat) (hi:i < s.size):GoodF s i (Lx.next s i):=by
 rw [next_step s i hi]
 have hr1:=run_gt s (fun c=>c != 10) i hi
 have hr2:=run_gt s (fun c=>Lx.letter c||Lx.digit c) i hi
 have hl1:=run_le s (fun c=>c != 10) s.size i (by omega)
 have hl2:=run_le s (fun c=>Lx.letter c||Lx.digit c) s.size i (by omega)
 have hw:=word_good s i hi
 have ht:=text_good s i hi s.size ByteArray.empty (i+1) (by omega)
 have hc:=cls_good s i hi s.size (fun _=>false) false (-1) (i+1) (by omega)
 have ha:=action_good s i hi s.size 0 i (Nat.le_refl _)
 have hb:∀ c,c≠0→GoodF s i (Lx.bad c i):=fun c h=>good_bad _ _ _ _ h (by omega)
 have h1:∀ k,GoodF s i ⟨k,⟨#[]⟩,i+1,0,0⟩:=fun k=>good_to _ _ _ _ _ (by omega) (by omega)
 generalize ((s[i].toNat:Nat):Int)=c at *
 generalize Lx.run s (fun c=>c != 10) s.size i=r1 at *
 generalize Lx.run s (fun c=>Lx.letter c||Lx.digit c) s.size i=r2 at *
 generalize Lx.word s i=w at *
 generalize Lx.text s i s.size ByteArray.empty (i+1)=tx at *
 generalize Lx.cls s i s.size (fun _=>false) false (-1) (i+1)=cl at *
 generalize Lx.action s i s.size 0 i=ac at *
 by_cases c0:(c == 32||c == 9||c == 10||c == 13)=true
 ·rw [if_pos c0]; exact h1 _
 rw [if_neg c0]
 by_cases c1:(c == 35)=true
 ·rw [if_pos c1]
  have e:c=35:=by simpa using c1
  subst e
  exact good_to _ _ _ _ _ (hr1 rfl) hl1
 rw [if_neg c1]
 by_cases c2:Lx.letter c=true
 ·rw [if_pos c2]
  by_cases c3:i+32 < r2
  ·rw [if_pos c3]; exact hb _ (by decide)
  ·rw [if_neg c3]; exact good_to _ _ _ _ _ (hr2 (by simp [c2])) hl2
 rw [if_neg c2]
 by_cases c3:(c == 37)=true
 ·rw [if_pos c3]; exact hw
 rw [if_neg c3]
 by_cases c4:(c == 34)=true
 ·rw [if_pos c4]; exact ht
 rw [if_neg c4]
 by_cases c5:(c == 91)=true
 ·rw [if_pos c5]; exact hc
 rw [if_neg c5]
 by_cases c6:(c == 123)=true
 ·rw [if_pos c6]; exact ha
 rw [if_neg c6]
 by_cases c7:(c == 43)=true
 ·rw [if_pos c7]; exact h1 _
 rw [if_neg c7]
 by_cases c8:(c == 58)=true
 ·rw [if_pos c8]; exact h1 _
 rw [if_neg c8]
 by_cases c9:(c == 124)=true
 ·rw [if_pos c9]; exact h1 _
 rw [if_neg c9]
 by_cases c10:(c == 59)=true
 ·rw [if_pos c10]; exact h1 _
 rw [if_neg c10]
 exact hb _ (by decide)
end Go.Proofs.YtjbggogbnckllaaDoor
end
section
set_option maxRecDepth 100000
namespace Go.Proofs.YtjbggogbnckllaaDoor
open Go.RowKit
set_option linter.unusedVariables false
set_option linter.unusedSimpArgs false
theorem elt_mark:Elt Tryd.prog 122 140 4 40 where
 ht:=Tryd.underlying122
 hi:=by
  have h:(Tryd.prog.info? 140).map (fun i=>(i.zero.map (fun z=>z.cells.size),i.size,i.bytes))=some (some 4,4,40):=by kernel_rfl
  cases hi:Tryd.prog.info? 140 with
  | none=>simp [hi] at h
  | some i =>
   simp [hi] at h
   obtain ⟨⟨z,hz,hz1⟩,h2,h3⟩:=h
   exact ⟨i,z,rfl,hz,h2,h3,hz1⟩
 hsz:=by decide
def mkCells (l:List Lx.Mark):List Value:=l.flatMap fun m=>[.int .i64 m.kind,.string m.text,.int .i64 m.pos.line,.int .i64 m.pos.col]
theorem mkCells_snoc (l:List Lx.Mark) (m:Lx.Mark):mkCells (l++[m])=mkCells l++[.int .i64 m.kind,.string m.text,.int .i64 m.pos.line,.int .i64 m.pos.col]:=by simp [mkCells]
/-- Marks in memory. -/
def Mks (w:World) (a:Option Addr) (l:List Lx.Mark):Prop:=∀ i (h:i < l.length),∃ b off,a=some ⟨b,off,none⟩∧w.cell? ⟨b,off+i*4,none⟩=some (.int .i64 l[i].kind) ∧
 w.cell? ⟨b,off+i*4+1,none⟩=some (.string l[i].text)∧w.cell? ⟨b,off+i*4+2,none⟩=some (.int .i64 l[i].pos.line)∧w.cell? ⟨b,off+i*4+3,none⟩=some (.int .i64 l[i].pos.col)
theorem mkCells_at:∀ (l:List Lx.Mark) (i:Nat) (h:i < l.length),(mkCells l)[i*4]?=some (.int .i64 l[i].kind)∧(mkCells l)[i*4+1]?=some (.string l[i].text)∧(mkCells l)[i*4+2]?=some (.int .i64 l[i].pos.line)∧(mkCells l)[i*4+3]?=some (.int .i64 l[i].pos.col)
 | [],i,h=>absurd h (Nat.not_lt_zero _)
 | m::l,0,_=>by refine ⟨rfl,rfl,rfl,rfl⟩
 | m::l,i+1,h=>by
  have ih:=mkCells_at l i (by simpa using h)
  have e:mkCells (m::l)=.int .i64 m.kind::.string m.text::.int .i64 m.pos.line::.int .i64 m.pos.col::mkCells l:=by simp [mkCells]
  rw [e]
  rw [show (i+1)*4=i*4+1+1+1+1 by omega]
  simp only [List.getElem?_cons_succ,List.getElem_cons_succ]
  exact ih
theorem Mks.of_row {w:World} {base g cap n:Nat} {l:List Lx.Mark} (h:w.ownsRow base 140 4 (.slice (some ⟨g,0,none⟩) n cap) n (mkCells l)) (hl:l.length=n):Mks w (some ⟨g,0,none⟩) l:=by
 intro i hi
 obtain ⟨e0,e1,e2,e3⟩:=mkCells_at l i hi
 refine ⟨g,0,rfl,?_,?_,?_,?_⟩
 ·rw [Nat.zero_add,h.cellAt (i*4) (by omega)]; exact e0
 ·rw [Nat.zero_add,h.cellAt (i*4+1) (by omega)]; exact e1
 ·rw [Nat.zero_add,h.cellAt (i*4+2) (by omega)]; exact e2
 ·rw [Nat.zero_add,h.cellAt (i*4+3) (by omega)]; exact e3
theorem Mks.setRow {w:World} {g k:Nat} {l:List Lx.Mark} {cs:Array Value} (h:Mks w (some ⟨g,0,none⟩) l) (hk:g≠k):Mks (w.setRow k cs) (some ⟨g,0,none⟩) l:=by
 intro i hi
 obtain ⟨b,off,e,t0,t1,t2,t3⟩:=h i hi
 have hb:b=g:=by cases e; rfl
 have hbk:b≠k:=by rw [hb]; exact hk
 exact ⟨b,off,e,(cell_setRow_other _ _ _ _ (by simpa using hbk)).trans t0,(cell_setRow_other _ _ _ _ (by simpa using hbk)).trans t1,(cell_setRow_other _ _ _ _ (by simpa using hbk)).trans t2,(cell_setRow_other _ _ _ _ (by simpa using hbk)).trans t3⟩
theorem Mks.below {w w':World} {a:Option Addr} {l:List Lx.Mark} (h:Mks w a l) (k:Below w.heap.size w w'):Mks w' a l:=by
 intro i hi
 obtain ⟨b,off,rfl,t0,t1,t2,t3⟩:=h i hi
 have hlt:b < w.heap.size:=World.block_lt_of_cell? w _ t0
 exact ⟨b,off,rfl,((bcell k).1 _ _ hlt).trans t0,((bcell k).1 _ _ hlt).trans t1,((bcell k).1 _ _ hlt).trans t2,((bcell k).1 _ _ hlt).trans t3⟩
def vDiag (d:Lx.Diag):Value:=.agg #[.int .i64 d.code,.int .i64 d.line,.int .i64 d.col]
theorem lexF_end (s:ByteArray) (f:Nat) (out:List Lx.Mark) (i:Nat) (h:s.size≤i):Lx.lexF s f out i=(out++[⟨0,ByteArray.empty,Lx.posF s s.size⟩],⟨0,0,0⟩):=by
 cases f with
 | zero=>rfl
 | succ f=>rw [Lx.lexF,if_pos h]
theorem lexF_step (s:ByteArray) (f:Nat) (out:List Lx.Mark) (i:Nat) (h:i < s.size):Lx.lexF s (f+1) out i =
  if (Lx.next s i).code≠0 then ([],⟨(Lx.next s i).code,(Lx.posF s (Lx.next s i).bad).line,(Lx.posF s (Lx.next s i).bad).col⟩)
  else Lx.lexF s f (if 0≤(Lx.next s i).kind then out++[⟨(Lx.next s i).kind,(Lx.next s i).text,Lx.posF s i⟩] else out) (Lx.next s i).to:=by
 rw [Lx.lexF,if_neg (by omega)]
/-- The result's block of Lex. -/
def BL (w wr:World):Prop:=wr.heap[w.heap.size]?=some (.cells #[.int .i64 0,.int .i64 0,.int .i64 0] 91 (0,0))∧Below w.heap.size w wr∧w.heap.size < wr.heap.size
theorem BL.start (w:World):BL w (w.alloc (.cells #[.int .i64 0,.int .i64 0,.int .i64 0] 91)) :=
 ⟨heap_alloc_new w _,(Below.refl _ _).alloc (Nat.le_refl _) _,by simp⟩
theorem BL.below {w wr v:World} (h:BL w wr) (k:Below wr.heap.size wr v):BL w v :=
 ⟨(k.block _ h.2.2).trans h.1,h.2.1.trans (k.mono h.2.1.size),Nat.lt_of_lt_of_le h.2.2 k.size⟩
theorem BL.grown {w W w2:World} {e:TypeId} {v:Value} {n:Nat} {xs:List Value} (h:BL w W) (ho:W.ownsRow (w.heap.size+1) e 4 v n xs) (hg:W.grownBy w2 v.ownBlock):BL w w2:=by
 have hob:=owns_lt ho
 refine ⟨(hg.block _ h.2.2 (fun hh=>by have:=hob _ hh.symm; omega)).trans h.1,h.2.1.grown hg h.2.1.size (fun g hh=>by have:=hob _ hh; omega),?_⟩
 have:=hg.size
 have:=h.2.2
 omega
set_option maxRecDepth 100000 in
set_option maxHeartbeats 32000000 in
theorem lex_any (s:ByteArray) (w:World) (hs:s.size≤4000) (HC:∀ i,i < s.size→Lx.at_ s i=91→ClassOK s i) :
  Calls Tryd.prog 71 #[.string s] w fun e w'=>∃ a cap,e=.returned (.tuple #[.slice a (Lx.lexF s s.size [] 0).1.length cap,vDiag (Lx.lexF s s.size [] 0).2])∧Mks w' a (Lx.lexF s s.size [] 0).1∧Below w.heap.size w w':=by
 obtain ⟨R,hR⟩:∃ R,Lx.lexF s s.size [] 0=R:=⟨_,rfl⟩
 rw [hR]
 have HR0:=Lib.hid hR
 have h0:=BL.start w
 have HCC:=Lib.hid HC
 have hd0:decide ((4000:Int) < (s.size:Int))=false:=by simp; omega
 clear hR HC
 go_enter Tryd.func71,Tryd.ntmps71
 go_wp2_with fail
 generalize (w.alloc (.cells #[.int .i64 0,.int .i64 0,.int .i64 0] 91))=W0 at h0 ⊢
 have H0:=Lib.hid h0
 clear h0 hd0
 go_loopw [4,5] (fun o i wr=>∃ (k f:Nat) (out:List Lx.Mark) (a:Option Addr) (cap:Nat),i=.int .i64 k∧k≤s.size∧o=.slice a out.length cap∧out.length≤k∧s.size≤k+f ∧
  Hid (Lx.lexF s f out k=R)∧Hid (BL w wr)∧Hid (wr.ownsRow (w.heap.size+1) 140 4 (.slice a out.length cap) out.length (mkCells out))) (fun _ i _=>s.size - (intOf i).toNat)
 case atStart=>exact ⟨0,s.size,[],none,0,rfl,by omega,rfl,Nat.le_refl _,by omega,HR0,H0,Lib.hid (World.ownsRow_nil _ _ _ _)⟩
 case round =>
  clear H0 HR0
  obtain ⟨k,f,out,a,cap,rfl,hk,rfl,hok,hf2,HR,HB,HO⟩:=hrel
  by_cases hlt:k < s.size
  ·obtain ⟨f,rfl⟩:∃ g,f=g+1:=⟨f - 1,by omega⟩
   have hst:=(lexF_step s f out k hlt).symm.trans HR.out
   have hn:=next_any s k wr hs hlt (HCC.out k hlt)
   have hg:=next_good s k hlt
   obtain ⟨F,hF⟩:∃ F,F=Lx.next s k:=⟨_,rfl⟩
   rw [← hF] at hst hn hg
   clear hF HR
   obtain ⟨kd,tx,e,cd,bd⟩:=F
   simp only [vFound] at hn
   simp only at hst
   cases hc:(cd == 0)
   case false =>
    have hc':cd≠0:=by simpa using hc
    rw [if_pos hc'] at hst
    have hv:Hid (R=([],⟨cd,(Lx.posF s bd).line,(Lx.posF s bd).col⟩)):=Lib.hid hst.symm
    obtain ⟨_,hbd⟩:=hg
    simp only at hbd
    clear hst
    go_wp2_with fail
    refine hn.mono ?_
    rintro e' v ⟨rfl,hb⟩
    have HB2:=Lib.hid (HB.out.below hb)
    clear hb hn HB HO
    go_wp2_with fail
    obtain ⟨V,hV⟩:∃ V,V=v.alloc (.cells #[.int .i64 kd,.string tx,.int .i64 e,.int .i64 cd,.int .i64 bd] 136):=⟨_,rfl⟩
    have c3:∀ z:Wd V.heap.size V,z.w.cell? ⟨v.heap.size,3,none⟩=some (.int .i64 cd):=by
     subst hV; exact fun z=>((bcell z.ok).1 _ _ (by simp)).trans (by go_simp)
    have c4:∀ z:Wd V.heap.size V,z.w.cell? ⟨v.heap.size,4,none⟩=some (.int .i64 bd):=by
     subst hV; exact fun z=>((bcell z.ok).1 _ _ (by simp)).trans (by go_simp)
    have hat:∀ z:Wd V.heap.size V,Calls Tryd.prog 83 #[.string s,.int .i64 bd] z.w fun e w'=>e=.returned (vPos (Lx.posF s bd))∧Below z.w.heap.size z.w w':=fun z=>at_any s bd z.w hs hbd
    have HB3:Hid (BL w V):=Lib.hid (by subst hV; exact HB2.out.below ((Below.refl _ _).alloc (Nat.le_refl _) _))
    have hsz3:(Tryd.prog.info? 91).map (·.size)=some 3:=by kernel_rfl
    simp only [vPos] at hat
    rw [← hV]
    clear hV HB2
    refine region_clst 8 V.heap.size (by kernel_rfl) (by kernel_rfl) ?_
    simp only [List.take_succ_cons,List.take_zero,List.drop_succ_cons,List.drop_zero]
    repeat (go_big_quiet_step (first | (go_at_call 83; exact calls_cls _ (Nat.le_refl _) (hat _))))
    refine wpQuiet_nil ?_
    intro z
    have HB4:=Lib.hid (HB3.out.below z.ok)
    have g0:=HB4.out.1
    clear c3 c4 hat HB3
    refine list_store_row rfl 91 _ _ rfl w.heap.size rfl _ rfl _ 91 g0 rfl hsz3 (by simp [Value.oneCell']) ?_
    go_wp2_with fail
    exact bodyPost_ret (results_two_row rfl _ _ (.slice none 0 0) w.heap.size 91 _ (0,0) _ rfl rfl (setRow_heap _ _ _ _ _ _ g0) Tryd.underlying91 rfl hsz3) rfl
     ⟨none,0,by rw [hv.out]; rfl,by rw [hv.out]; intro i hi; exact absurd hi (Nat.not_lt_zero _),HB4.out.2.1.trans ⟨rfl,rfl,rfl,by simp,fun i hi=>setRow_other _ _ _ _ (by omega)⟩⟩
   case true =>
    have hc':cd=0:=by simpa using hc
    subst hc'
    rw [if_neg (by simp)] at hst
    obtain ⟨he0,_⟩:=hg
    obtain ⟨he1,he2⟩:=he0 rfl
    simp only at he1 he2
    clear he0
    cases hk0:decide (0≤kd)
    case false =>
     have hk0':¬ 0≤kd:=by simpa using hk0
     rw [if_neg hk0'] at hst
     have HN:=Lib.hid hst
     clear hst
     go_wp2_with fail
     refine hn.mono ?_
     rintro e' v ⟨rfl,hb⟩
     have HB2:Hid (BL w (v.alloc (.cells #[.int .i64 kd,.string tx,.int .i64 e,.int .i64 0,.int .i64 bd] 136))):=Lib.hid ((HB.out.below hb).below ((Below.refl _ _).alloc (Nat.le_refl _) _))
     have HO2:Hid ((v.alloc (.cells #[.int .i64 kd,.string tx,.int .i64 e,.int .i64 0,.int .i64 bd] 136)).ownsRow (w.heap.size+1) 140 4 (.slice a out.length cap) out.length (mkCells out)):=Lib.hid ((owns_below HO.out hb).alloc _)
     clear hb hn HB HO
     go_wp2_with fail
     go_roundw
     case rel=>exact ⟨e,f,out,a,cap,rfl,he2,rfl,by omega,by omega,HN,HB2,HO2⟩
     case measure=>simp [intOf]; omega
    case true =>
     have hk0':0≤kd:=by simpa using hk0
     rw [if_pos hk0'] at hst
     have HN:=Lib.hid hst
     clear hst
     have hat:∀ W:World,Calls Tryd.prog 83 #[.string s,.int .i64 k] W fun e w'=>e=.returned (vPos (Lx.posF s k))∧Below W.heap.size W w':=fun W=>at_any s k W hs (by omega)
     simp only [vPos] at hat
     go_wp2_with fail
     refine hn.mono ?_
     rintro e' v ⟨rfl,hb⟩
     obtain ⟨V,hV⟩:∃ V,V=v.alloc (.cells #[.int .i64 kd,.string tx,.int .i64 e,.int .i64 0,.int .i64 bd] 136):=⟨_,rfl⟩
     have HB2:Hid (BL w V):=Lib.hid (by subst hV; exact (HB.out.below hb).below ((Below.refl _ _).alloc (Nat.le_refl _) _))
     have HO2:Hid (V.ownsRow (w.heap.size+1) 140 4 (.slice a out.length cap) out.length (mkCells out)):=Lib.hid (by subst hV; exact (owns_below HO.out hb).alloc _)
     have c0:V.cell? ⟨v.heap.size,0,none⟩=some (.int .i64 kd):=by subst hV; go_simp
     have c1:V.cell? ⟨v.heap.size,1,none⟩=some (.string tx):=by subst hV; go_simp
     have c2:V.cell? ⟨v.heap.size,2,none⟩=some (.int .i64 e):=by subst hV; go_simp
     have hlv:v.heap.size < V.heap.size:=by subst hV; simp
     have hob:∀ g,(Value.slice a out.length cap).ownBlock=some g→g < v.heap.size:=fun g hg=>Nat.lt_of_lt_of_le (owns_lt HO.out g hg).2 hb.size
     have hwv:w.heap.size+1≤V.heap.size:=HB2.out.2.2
     clear hn HB HO
     go_wp2_with fail
     rw [← hV]
     have hsnoc:=mkCells_snoc out ⟨kd,tx,Lx.posF s k⟩
     clear hV
     go_region_law (first | (refine step_call2 (by rfl) 83 Tryd.call83 _ _ _ (by rfl) (.string s) (.int .i64 k) (by rfl) (by rfl) (.agg #[.int .i64 (Lx.posF s k).line,.int .i64 (Lx.posF s k).col]) (fun w'=>Below V.drew.heap.size V.drew w') (hat _) ?_; intro w1 hb1; have hb2:=(Below.refl V.heap.size V).drew.trans hb1; have d0:=((bcell hb2).1 v.heap.size 0 hlv).trans c0; have d1:=((bcell hb2).1 v.heap.size 1 hlv).trans c1; have d2:=((bcell hb2).1 v.heap.size 2 hlv).trans c2; have hsz1:=hb2.size) | (refine step_append_one (by rfl) _ _ _ (by rfl) 140 (w.heap.size+1) 4 40 elt_mark (.slice a out.length cap) out.length (mkCells out) (by rfl) ((owns_below HO2.out hb2).alloc _) ⟨w1.heap.size,0,none⟩ 1 [.int .i64 kd,.string tx,.int .i64 (Lx.posF s k).line,.int .i64 (Lx.posF s k).col] (by rfl) (by rfl) (World.news_of_block (cs:=#[.int .i64 kd,.string tx,.int .i64 (Lx.posF s k).line,.int .i64 (Lx.posF s k).col]) (t:=140) (fr:=(0,0)) (heap_alloc_new w1 _)) (by simp [Value.oneCell']) (by unfold maxLen; omega) (by omega) (by simp; omega) ?_; intro gg gcap w2 hown2 hgrow hbg hlt2 hat2; have q2:w2.cell? ⟨v.heap.size,2,none⟩=some (.int .i64 e):=(hgrow.cell_far ⟨v.heap.size,2,none⟩ (by first | omega | (simp; omega)) (fun h=>by have:=hob _ h.symm; first | omega | (simp at this))).trans ((World.cell?_alloc_past _ _ _ (by first | omega | (simp; omega))).trans d2)))
     all_goals
      have RB:Hid (BL w w2):=Lib.hid (((HB2.out.below hb2).below ((Below.refl _ _).alloc (Nat.le_refl _) _)).grown ((owns_below HO2.out hb2).alloc _) hgrow)
      have RO:Hid (w2.ownsRow (w.heap.size+1) 140 4 (.slice (some ⟨gg,0,none⟩) (out.length+1) gcap) (out.length+1) (mkCells (out++[⟨kd,tx,Lx.posF s k⟩]))):=Lib.hid (by rw [hsnoc]; exact hown2)
      have hl:(out++[(⟨kd,tx,Lx.posF s k⟩:Lx.Mark)]).length=out.length+1:=by simp
      have HL:=Lib.hid hl
      clear hown2 hgrow hat2 hob hsnoc d0 d1 hb1 hb2 hl
      go_wp2_with fail
      go_roundw
      case rel=>exact ⟨e,f,out++[⟨kd,tx,Lx.posF s k⟩],some ⟨gg,0,none⟩,gcap,rfl,he2,by rw [HL.out],by rw [HL.out]; omega,by omega,HN,RB,by rw [HL.out]; exact RO⟩
      case measure=>simp [intOf]; omega
  ·obtain rfl:k=s.size:=by omega
   have hv:Hid (R=(out++[⟨0,ByteArray.empty,Lx.posF s s.size⟩],⟨0,0,0⟩)):=Lib.hid (by rw [← HR.out,lexF_end _ _ _ _ (by omega)])
   have hat:∀ W:World,Calls Tryd.prog 83 #[.string s,.int .i64 s.size] W fun e w'=>e=.returned (vPos (Lx.posF s s.size))∧Below W.heap.size W w':=fun W=>at_any s s.size W hs (Nat.le_refl _)
   have hsz3:(Tryd.prog.info? 91).map (·.size)=some 3:=by kernel_rfl
   have hsnoc:=mkCells_snoc out ⟨0,ByteArray.empty,Lx.posF s s.size⟩
   simp only [vPos] at hat
   clear HR
   go_wp2_with fail
   refine (hat _).mono ?_
   rintro e1 w1 ⟨rfl,hb1⟩
   have hw1:w.heap.size+1≤w1.heap.size:=Nat.le_trans HB.out.2.2 hb1.size
   have hO:=owns_below HO.out hb1
   have hB:=HB.out.below hb1
   clear hat HO HB
   go_wp2_with (first | (refine list_append_one rfl _ _ _ rfl 140 (w.heap.size+1) 4 40 elt_mark (.slice a out.length cap) out.length (mkCells out) rfl (hO.alloc _) ⟨w1.heap.size,0,none⟩ 1 [.int .i64 0,.string ⟨#[]⟩,.int .i64 (Lx.posF s s.size).line,.int .i64 (Lx.posF s s.size).col] rfl rfl (World.news_of_block (cs:=#[.int .i64 0,.string ⟨#[]⟩,.int .i64 (Lx.posF s s.size).line,.int .i64 (Lx.posF s s.size).col]) (t:=140) (fr:=(0,0)) (heap_alloc_new w1 _)) (by simp [Value.oneCell']) (by unfold maxLen; omega) (by omega) (by simp; omega) ?_; intro gg gcap w2 hown2 hgrow hbg hlt2 hat2; have RB:Hid (BL w w2):=Lib.hid ((hB.below ((Below.refl _ _).alloc (Nat.le_refl _) _)).grown (hO.alloc _) hgrow); have hM:Mks w2 (some ⟨gg,0,none⟩) (out++[⟨0,ByteArray.empty,Lx.posF s s.size⟩]):=Mks.of_row (base:=w.heap.size+1) (n:=out.length+1) (cap:=gcap) (by rw [hsnoc]; exact hown2) (by simp); have HM:=Lib.hid (hM.setRow (k:=w.heap.size) (cs:=#[.int .i64 0,.int .i64 0,.int .i64 0]) (by omega)); have g0:=RB.out.1; clear hgrow hown2 hat2 hM) | (refine list_store_row rfl 91 _ _ rfl w.heap.size rfl _ rfl _ 91 g0 rfl hsz3 (by simp [Value.oneCell']) ?_))
   exact bodyPost_ret (results_two_row rfl _ _ (.slice (some ⟨gg,0,none⟩) (out.length+1) gcap) w.heap.size 91 #[.int .i64 0,.int .i64 0,.int .i64 0] (0,0) _ rfl rfl (setRow_heap _ _ _ _ _ _ g0) Tryd.underlying91 rfl hsz3) rfl
    ⟨some ⟨gg,0,none⟩,gcap,by rw [hv.out]; simp [vDiag],by rw [hv.out]; exact HM.out,RB.out.2.1.trans ⟨rfl,rfl,rfl,by simp,fun i hi=>setRow_other _ _ _ _ (by omega)⟩⟩
end Go.Proofs.YtjbggogbnckllaaDoor
end
