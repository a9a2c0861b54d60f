/-
  The walk of the law ScanGoesOn: it answers true, and turns nothing that was there.
-/
import Derived.Test.YtgoggooeipcgpaaScanX
namespace Go.Proofs.Ytgoggooeipcgpaa
open Go.RowKit
set_option linter.unusedVariables false

theorem fewG_all (T S : List Pl.Pt) (h : fewG T S = true) : T.length ≤ 20 ∧ S.length ≤ 10 ∧ ∀ p ∈ T ++ S, p.t.size ≤ 40 ∧ p.s.size ≤ 300 := by
  simp only [fewG, smallP, Bool.and_eq_true, decide_eq_true_eq, List.all_eq_true] at h
  refine ⟨h.1.1, h.1.2, fun p hp => ?_⟩
  rcases List.mem_append.1 hp with hp | hp
  · exact h.2.1 p hp
  · exact h.2.2 p hp

set_option maxRecDepth 100000 in
set_option maxHeartbeats 3200000 in
theorem goesOn_law (T S : List Pl.Pt) (ta sa : Option Addr) (tc sc : Nat) (x y : ByteArray) (c : UInt8) (w : World) (hT : SlP w ta T) (hS : SlP w sa S) (oT : OkP T) (oS : OkP S) (lT : T.length * 40 ≤ 140737488355328) (lS : S.length ≤ 9223372036854775806) (hx : x.size ≤ maxLen) (hy : y.size ≤ maxLen) :
    Calls Try.prog 11 #[.slice ta T.length tc,   .slice sa S.length sc, .string x, .string y, .int .u8 (c.toNat : Nat)] w fun e w' => e = .returned (.bool true) ∧ Below w.heap.size w w' := by
  have lT' : T.length ≤ 9223372036854775806 := by omega
  have T0 := Lib.hid hT
  have S0 := Lib.hid hS
  have OT := Lib.hid oT
  have OS := Lib.hid oS
  clear hT hS oT oS
  go_enter Try.func11, Try.ntmps11
  go_wp2_with fail
  refine (awake17_any _).mono ?_
  rintro e v0 ⟨rfl, hb⟩
  have T1 := Lib.hid (T0.out.below hb)
  have S1 := Lib.hid (S0.out.below hb)
  have L1 := Lib.hid hb
  clear hb T0 S0
  go_wp2_with fail
  refine (made_any T S ta sa tc sc v0 T1.out lT).mono ?_
  rintro e v1 ⟨ga, gc, rfl, hg, hb⟩
  have G2 := Lib.hid hg
  have T2 := Lib.hid (T1.out.below hb)
  have S2 := Lib.hid (S1.out.below hb)
  have L2 := Lib.hid (L1.out.trans (hb.mono L1.out.size))
  clear hb hg T1 S1 L1
  go_wp2_with fail
  have hbx := ((Below.refl v1.heap.size v1).alloc (Nat.le_refl _) (.cells #[.slice ga T.length gc, .slice sa S.length sc, .slice none 0 0, .string ⟨#[]⟩, .slice none 0 0] 40))
  have G3 := Lib.hid (G2.out.below hbx)
  have T3 := Lib.hid (T2.out.below hbx)
  have S3 := Lib.hid (S2.out.below hbx)
  have L3 := Lib.hid (L2.out.trans (hbx.mono L2.out.size))
  have hz3 : v1.heap.size < (v1.alloc (.cells #[.slice ga T.length gc, .slice sa S.length sc, .slice none 0 0, .string ⟨#[]⟩, .slice none 0 0] 40)).heap.size := by simp
  have B3 := Lib.hid (heap_alloc_new v1 (.cells #[.slice ga T.length gc, .slice sa S.length sc, .slice none 0 0, .string ⟨#[]⟩, .slice none 0 0] 40))
  have hw1 : w.heap.size ≤ v1.heap.size := L2.out.size
  generalize (v1.alloc (.cells #[.slice ga T.length gc, .slice sa S.length sc, .slice none 0 0, .string ⟨#[]⟩, .slice none 0 0] 40)) = V at hbx G3 T3 S3 L3 hz3 B3 ⊢
  clear hbx G2 T2 S2 L2
  refine (fewg_any T S ga sa gc sc V G3.out S3.out OT.out OS.out (by unfold maxLen; omega) (by unfold maxLen; omega)).mono ?_
  rintro e v2 ⟨rfl, hb⟩
  have G4 := Lib.hid (G3.out.below hb)
  have T4 := Lib.hid (T3.out.below hb)
  have S4 := Lib.hid (S3.out.below hb)
  have L4 := Lib.hid (L3.out.trans (hb.mono L3.out.size))
  have B4 := Lib.hid ((hb.block _ hz3).trans B3.out)
  have hz4 : v1.heap.size < v2.heap.size := Nat.lt_of_lt_of_le hz3 hb.size
  clear hb G3 T3 S3 L3 B3 hz3
  have hfew : fewG T S = true → T.length ≤ 20 ∧ S.length ≤ 10 ∧ ∀ p ∈ T ++ S, p.t.size ≤ 40 ∧ p.s.size ≤ 300 := fewG_all T S
  cases hfw : fewG T S with
  | false =>
    clear hfew
    go_wp2_with fail
    go_ret
    exact ⟨rfl, L4.out⟩
  | true =>
  obtain ⟨l20, l10, lsz⟩ := hfew hfw
  have LZ := Lib.hid lsz
  clear lsz
  clear hfew hfw
  by_cases h50 : x.size ≤ 50
  case neg =>
    have h1' : decide (50 < (x.size : Int)) = true := by simp; omega
    go_wp2_with fail
    go_ret
    exact ⟨rfl, L4.out⟩
  have h1' : decide (50 < (x.size : Int)) = false := by simp; omega
  by_cases hy50 : y.size ≤ 50
  case neg =>
    have h2' : decide (50 < (y.size : Int)) = true := by simp; omega
    go_wp2_with fail
    go_ret
    exact ⟨rfl, L4.out⟩
  have h2' : decide (50 < (y.size : Int)) = false := by simp; omega
  have hlap : (T ++ S).length = T.length + S.length := List.length_append
  have R0 := Lib.hid (Below.refl v2.heap.size v2)
  have N0 : Hid (∀ p ∈ (T ++ S).take 0, c ∉ p.t.data.toList ∧ c ∉ p.s.data.toList) := Lib.hid (fun p hp => by simp at hp)
  go_wp2_with fail
  go_loopw [14] (fun i wr => ∃ j : Nat, i = .int .i64 j ∧ j ≤ T.length + S.length ∧ Hid (∀ p ∈ (T ++ S).take j, c ∉ p.t.data.toList ∧ c ∉ p.s.data.toList) ∧ Hid (Below v2.heap.size v2 wr)) (fun i _ => T.length + S.length - (intOf i).toNat)
  case atStart => exact ⟨0, rfl, by omega, N0, R0⟩
  case round =>
    clear R0 N0
    obtain ⟨j, rfl, hj, N0, R0⟩ := hrel
    by_cases hlt : j < T.length + S.length
    case pos =>
      have d1 : decide ((j : Int) < (T.length : Int) + (S.length : Int)) = true := by simp; omega
      have hw6 : v2.heap.size ≤ wr.heap.size := R0.out.size
      by_cases hjT : j < T.length
      case pos =>
        have hTj : (T ++ S)[j]'(by omega) = T[j] := List.getElem_append_left hjT
        have LZj := LZ.out T[j] (by simp)
        have HN : Hid (c ∉ T[j].t.data.toList → c ∉ T[j].s.data.toList → ∀ p ∈ (T ++ S).take (j + 1), c ∉ p.t.data.toList ∧ c ∉ p.s.data.toList) := by
          refine Lib.hid ?_
          intro h1 h2 p hp
          rw [List.take_succ_eq_append_getElem (by omega), hTj] at hp
          rcases List.mem_append.1 hp with hp | hp
          · exact N0.out p hp
          · simp at hp; subst hp; exact ⟨h1, h2⟩
        obtain ⟨b1, o1, rfl, g0, g1, g2⟩ := (T4.out.below R0.out) j hjT
        have hlb : b1 < wr.heap.size := World.block_lt_of_cell? wr _ g0
        generalize T[j] = p at g0 g1 g2 HN LZj hTj
        have R1 := Lib.hid (R0.out.trans (((Below.refl wr.heap.size wr).alloc (Nat.le_refl _) (.cells #[.string p.t, .string p.s, .bool p.m] 23)).mono hw6))
        have hls : (p.t ++ p.s).size = p.t.size + p.s.size := ByteArray.size_append
        have hadd : p.t.size + p.s.size ≤ 9223372036854775807 := by omega
        have hal : (p.t ++ p.s).data.toList = p.t.data.toList ++ p.s.data.toList := by rw [ByteArray.data_append, Array.toList_append]
        go_wp2_with fail
        generalize (wr.alloc (.cells #[.string p.t, .string p.s, .bool p.m] 23)) = W at R1 ⊢
        generalize p.t ++ p.s = A at hls hal ⊢
        have HAL := Lib.hid hal
        clear hal hadd R0 g0 g1 g2 hlb
        go_loop [17] (fun i => ∃ k : Nat, i = .int .i64 k ∧ k ≤ A.size ∧ Hid (∀ q (h : q < A.size), q < k → A[q] ≠ c)) (fun i => A.size - (intOf i).toNat)
        case atStart => exact ⟨0, rfl, by omega, Lib.hid (fun q _ h => by omega)⟩
        case round =>
          obtain ⟨k, rfl, hk, HQ⟩ := hrel
          by_cases hka : k < A.size
          case pos =>
            by_cases hc : A[k] = c
            case pos =>
              have hcc : ((A[k].toNat : Int) == (c.toNat : Int)) = true := by simp [hc]
              clear hc
              go_wp2_with fail
              go_ret
              exact ⟨rfl, L4.out.trans (R1.out.mono L4.out.size)⟩
            case neg =>
              have hcc : ((A[k].toNat : Int) == (c.toNat : Int)) = false := by
                simp
                intro h
                exact hc (UInt8.toNat_inj.1 (by omega))
              have HQ2 : Hid (∀ q (h : q < A.size), q < k + 1 → A[q] ≠ c) := by
                refine Lib.hid (fun q h hq => ?_)
                by_cases hqk : q = k
                · subst hqk; exact hc
                · exact HQ.out q h (by omega)
              clear HQ hc
              go_wp2_with fail
              go_round
              case rel => exact ⟨k + 1, by go_num, by omega, HQ2⟩
              case measure => simp [intOf]; omega
          case neg =>
            have hnot : c ∉ p.t.data.toList ++ p.s.data.toList := by
              rw [← HAL.out]
              intro hm
              obtain ⟨q, hq, he⟩ := List.getElem_of_mem hm
              have hq' : q < A.size := hq
              exact HQ.out q hq' (by omega) he
            have HN2 := Lib.hid (HN.out (fun h => hnot (List.mem_append_left _ h)) (fun h => hnot (List.mem_append_right _ h)))
            have hka' : k = A.size := by omega
            subst hka'
            clear hka hnot HQ
            go_wp2_with fail
            go_roundw
            case rel => exact ⟨_, by go_num, by omega, HN2, R1⟩
            case measure => simp [intOf]; omega
      case neg =>
        obtain ⟨d, rfl⟩ : ∃ d, j = T.length + d := ⟨j - T.length, by omega⟩
        have hd : d < S.length := by omega
        have d2 : decide ((T.length : Int) + (d : Int) < (T.length : Int)) = false := by simp; omega
        have hTj : (T ++ S)[T.length + d]'(by omega) = S[d] := by rw [List.getElem_append_right (by omega)]; simp
        have LZj := LZ.out S[d] (by simp)
        have HN : Hid (c ∉ S[d].t.data.toList → c ∉ S[d].s.data.toList → ∀ p ∈ (T ++ S).take (T.length + d + 1), c ∉ p.t.data.toList ∧ c ∉ p.s.data.toList) := by
          refine Lib.hid ?_
          intro h1 h2 p hp
          rw [List.take_succ_eq_append_getElem (by omega), hTj] at hp
          rcases List.mem_append.1 hp with hp | hp
          · exact N0.out p hp
          · simp at hp; subst hp; exact ⟨h1, h2⟩
        obtain ⟨b1, o1, rfl, g0, g1, g2⟩ := (S4.out.below R0.out) d hd
        have hlb : b1 < wr.heap.size := World.block_lt_of_cell? wr _ g0
        generalize S[d] = p at g0 g1 g2 HN LZj hTj
        have R1 := Lib.hid (R0.out.trans (((Below.refl wr.heap.size wr).alloc (Nat.le_refl _) (.cells #[.string p.t, .string p.s, .bool p.m] 23)).mono hw6))
        have hls : (p.t ++ p.s).size = p.t.size + p.s.size := ByteArray.size_append
        have hadd : p.t.size + p.s.size ≤ 9223372036854775807 := by omega
        have hal : (p.t ++ p.s).data.toList = p.t.data.toList ++ p.s.data.toList := by rw [ByteArray.data_append, Array.toList_append]
        go_wp2_with fail
        generalize (wr.alloc (.cells #[.string p.t, .string p.s, .bool p.m] 23)) = W at R1 ⊢
        generalize p.t ++ p.s = A at hls hal ⊢
        have HAL := Lib.hid hal
        clear hal hadd R0 g0 g1 g2 hlb
        go_loop [17] (fun i => ∃ k : Nat, i = .int .i64 k ∧ k ≤ A.size ∧ Hid (∀ q (h : q < A.size), q < k → A[q] ≠ c)) (fun i => A.size - (intOf i).toNat)
        case atStart => exact ⟨0, rfl, by omega, Lib.hid (fun q _ h => by omega)⟩
        case round =>
          obtain ⟨k, rfl, hk, HQ⟩ := hrel
          by_cases hka : k < A.size
          case pos =>
            by_cases hc : A[k] = c
            case pos =>
              have hcc : ((A[k].toNat : Int) == (c.toNat : Int)) = true := by simp [hc]
              clear hc
              go_wp2_with fail
              go_ret
              exact ⟨rfl, L4.out.trans (R1.out.mono L4.out.size)⟩
            case neg =>
              have hcc : ((A[k].toNat : Int) == (c.toNat : Int)) = false := by
                simp
                intro h
                exact hc (UInt8.toNat_inj.1 (by omega))
              have HQ2 : Hid (∀ q (h : q < A.size), q < k + 1 → A[q] ≠ c) := by
                refine Lib.hid (fun q h hq => ?_)
                by_cases hqk : q = k
                · subst hqk; exact hc
                · exact HQ.out q h (by omega)
              clear HQ hc
              go_wp2_with fail
              go_round
              case rel => exact ⟨k + 1, by go_num, by omega, HQ2⟩
              case measure => simp [intOf]; omega
          case neg =>
            have hnot : c ∉ p.t.data.toList ++ p.s.data.toList := by
              rw [← HAL.out]
              intro hm
              obtain ⟨q, hq, he⟩ := List.getElem_of_mem hm
              have hq' : q < A.size := hq
              exact HQ.out q hq' (by omega) he
            have HN2 := Lib.hid (HN.out (fun h => hnot (List.mem_append_left _ h)) (fun h => hnot (List.mem_append_right _ h)))
            have hka' : k = A.size := by omega
            subst hka'
            clear hka hnot HQ
            go_wp2_with fail
            go_roundw
            case rel => exact ⟨_, by go_num, by omega, HN2, R1⟩
            case measure => simp [intOf]; omega
    case neg =>
      have hje : j = (T ++ S).length := by omega
      have hfree := N0.out
      rw [hje, List.take_length] at hfree
      have FT : Pl.Free c T := fun p hp => hfree p (List.mem_append_left _ hp)
      have FS : Pl.Free c S := fun p hp => hfree p (List.mem_append_right _ hp)
      have FF := Lib.hid (Pl.cut_more (x := x.data.toList) (more := y.data.toList) FT FS x.size (x ++ ⟨#[c]⟩ ++ y).size 0 0 (Nat.zero_le _) (by show x.size ≤ 0 + x.size; omega) (by simp [ByteArray.size_append]; show x.size + (y.size + 1) ≤ x.size + 1 + y.size; omega))
      have hjs : j = T.length + S.length := by omega
      clear hfree FT FS hje N0 hlt
      subst hjs
      have hxs : (x ++ ⟨#[c]⟩ ++ y).size = x.size + 1 + y.size := by rw [ByteArray.size_append, ByteArray.size_append]; rfl
      have hxa : (x ++ ⟨#[c]⟩ ++ y).data.toList = x.data.toList ++ c :: y.data.toList := by
        rw [ByteArray.data_append, Array.toList_append, ByteArray.data_append, Array.toList_append]
        simp
      have G6 := Lib.hid (G4.out.below R0.out)
      have S6 := Lib.hid (S4.out.below R0.out)
      have L6 := Lib.hid (L4.out.trans (R0.out.mono L4.out.size))
      have B6 := Lib.hid ((R0.out.block _ hz4).trans B4.out)
      have hz6 : v1.heap.size < wr.heap.size := Nat.lt_of_lt_of_le hz4 R0.out.size
      clear R0 G4 S4 L4 B4
      have c0 := cell_of_row _ _ 0 _ _ _ B6.out
      have c1 := cell_of_row _ _ 1 _ _ _ B6.out
      have c2 := cell_of_row _ _ 2 _ _ _ B6.out
      have c3 := cell_of_row _ _ 3 _ _ _ B6.out
      have c4 := cell_of_row _ _ 4 _ _ _ B6.out
      simp at c0 c1 c2 c3 c4
      have d1 : decide ((T.length : Int) + (S.length : Int) < (T.length : Int) + (S.length : Int)) = false := by simp
      go_wp2_with fail
      refine (sall_any T S ga sa gc sc x wr G6.out S6.out OT.out OS.out (by omega) (by omega) (by omega)).mono ?_
      rintro e v3 ⟨la, lc, rfl, hl, hb⟩
      have K7 := Lib.hid hl
      have G7 := Lib.hid (G6.out.below hb)
      have S7 := Lib.hid (S6.out.below hb)
      have L7 := Lib.hid (L6.out.trans (hb.mono L6.out.size))
      have B7 := Lib.hid ((hb.block _ hz6).trans B6.out)
      have hz7 : v1.heap.size < v3.heap.size := Nat.lt_of_lt_of_le hz6 hb.size
      clear hb hl G6 S6 L6 B6 c0 c1 c2 c3 c4
      obtain ⟨-, kEr, kNe⟩ := Pl.cut_ok T S x.data.toList x.size 0 0 (Nat.zero_le _) (by show x.size ≤ 0 + x.size; omega)
      have kLen := Pl.cut_len T S x.data.toList x.size 0 0 (Nat.zero_le _)
      have kNe := List.length_pos_iff.2 kNe
      generalize Pl.cut T S x.data.toList x.size 0 0 = R at K7 FF kEr kNe kLen ⊢
      obtain ⟨l, er, sk⟩ := R
      simp only [] at K7 FF kEr kNe kLen ⊢
      have hx8 : x.data.toList.length = x.size := rfl
      rw [hx8] at kLen
      have hbx := ((Below.refl v3.heap.size v3).alloc (Nat.le_refl _) (.cells #[.int .u8 (c.toNat : Int)] 5))
      have b0 := cell_of_row _ _ 0 _ _ _ ((hbx.block _ hz7).trans B7.out)
      have b1 := cell_of_row _ _ 1 _ _ _ ((hbx.block _ hz7).trans B7.out)
      have b2 := cell_of_row _ _ 2 _ _ _ ((hbx.block _ hz7).trans B7.out)
      have b3 := cell_of_row _ _ 3 _ _ _ ((hbx.block _ hz7).trans B7.out)
      have b4 := cell_of_row _ _ 4 _ _ _ ((hbx.block _ hz7).trans B7.out)
      have c0 := cell_of_row _ _ 0 _ _ _ B7.out
      have c1 := cell_of_row _ _ 1 _ _ _ B7.out
      have c2 := cell_of_row _ _ 2 _ _ _ B7.out
      have c3 := cell_of_row _ _ 3 _ _ _ B7.out
      have c4 := cell_of_row _ _ 4 _ _ _ B7.out
      simp at c0 c1 c2 c3 c4 b0 b1 b2 b3 b4
      have hcv := one_byte v3 c.toNat c.toNat_lt
      rw [show UInt8.ofNat c.toNat = c from by simp] at hcv
      have hkb : v1.heap.size < v3.heap.size + 1 := by omega
      have hs1 : (ByteArray.mk #[c]).size = 1 := rfl
      have hs2 : (x ++ ByteArray.mk #[c]).size = x.size + 1 := by rw [ByteArray.size_append]; rfl
      have hg1 : x.size + (ByteArray.mk #[c]).size ≤ 9223372036854775807 := by omega
      have hg2 : (x ++ ByteArray.mk #[c]).size + y.size ≤ 9223372036854775807 := by omega
      go_wp2_with fail
      clear c0 c1 c2 c3 c4 b0 b1 b2 b3 b4 hcv
      obtain ⟨F1, F2⟩ := FF.out
      rw [← hxa] at F1 F2
      generalize hX : x ++ ByteArray.mk #[c] ++ y = X at F1 F2 hxs hxa ⊢
      refine (sall_any T S ga sa gc sc X _ (G7.out.below hbx) (S7.out.below hbx) OT.out OS.out (by omega) (by omega) (by omega)).mono ?_
      rintro e v4 ⟨ma, mc, rfl, hm, hb⟩
      rw [F1] at hm
      rw [F1, F2]
      have M8 := Lib.hid hm
      have K8 := Lib.hid ((K7.out.below hbx).below hb)
      have L8 := Lib.hid ((L7.out.trans (hbx.mono L7.out.size)).trans (hb.mono (by have := L7.out.size; simp; omega)))
      clear hm hb hbx G7 S7 K7 L7 B7 FF F1 F2 hX hxa hxs hs2 hg1 hg2
      have l0 : ((l.length : Int) == 0) = false := by
        have h : l.length ≠ 0 := by omega
        simpa using h
      have l1 : decide (l.length ≤ 1000) = true := by simp; omega
      go_wp2_with fail
      refine (toks_same l la ma lc mc v4 K8.out M8.out (by omega)).mono ?_
      rintro e v5 ⟨rfl, hb⟩
      have L9 := Lib.hid (L8.out.trans (hb.mono L8.out.size))
      clear hb K8 M8 L8
      rcases kEr with her | her
      · have e1 : ((er : Int) == 0) = true := by simp; omega
        have Her := Lib.hid her
        clear her
        go_wp2_with fail
        go_ret
        exact ⟨rfl, L9.out⟩
      · have e1 : ((er : Int) == 0) = false := by simp; omega
        have e2 : ((er : Int) == 21) = true := by simp; omega
        have Her := Lib.hid her
        clear her
        go_wp2_with fail
        go_ret
        exact ⟨rfl, L9.out⟩
end Go.Proofs.Ytgoggooeipcgpaa
