/- versoref08.cut. -/
import Derived.Test.YtlfimcpceiemnaaDoorPRef1
set_option linter.unusedVariables false
namespace Go.Proofs.YtlfimcpceiemnaaDoor
open Go Go.RowKit

set_option maxHeartbeats 3200000 in
set_option maxRecDepth 100000 in
theorem cut_calls (s : Str) (c : UInt8) (hs : s.length ≤ 100000000) (w : World) :
    Calls Tryd.prog 26 #[.string ⟨s.toArray⟩, .int .u8 c.toNat] w fun e w' => ∃ v, e = .returned v ∧ w'.ownsRow w.heap.size 9 1 v (splitF c s).length (strCells (splitF c s)) ∧ Ch (fun _ => False) w w' := by
  go_enter Tryd.func26, Tryd.ntmps26
  go_wp2
  go_loopw [5, 6, 7] (fun out f i wr => ∃ (k j : Nat) (L : List Str), f = .int .i64 j ∧ i = .int .i64 k ∧ k ≤ s.length + 1 ∧ j ≤ k ∧ wr.ownsRow w.heap.size 9 1 out L.length (strCells L) ∧ L.length ≤ k ∧ Hid (CutSt c s k j L) ∧ Hid (Ch (fun _ => False) w wr)) (fun _ _ i _ => s.length + 1 - (intOf i).toNat)
  case atStart => exact ⟨0, 0, [], rfl, rfl, Nat.zero_le _, Nat.le_refl _, World.ownsRow_nil _ _ _ _, Nat.le_refl _, ⟨fun _ => ⟨rfl, fun i h1 h2 => by omega⟩, fun h => by omega⟩, Ch.refl _ w⟩
  case round =>
    rename World => wr
    obtain ⟨k, j, L, rfl, rfl, hk, hj, hown, hLk, HCt, HC⟩ := hrel
    by_cases hle : k ≤ s.length
    · have i1 : (k : Int) ≤ (s.length : Int) := by omega
      obtain ⟨Ak, ck, hvk⟩ : ∃ A c, u5 = .slice A L.length c := by
        rcases hown.2 with ⟨h0, h1⟩ | ⟨g', cap, cur, h0, _⟩
        · exact ⟨_, _, by rw [h0, h1]⟩
        · exact ⟨_, _, h0⟩
      have hl0 : (0 : Int) ≤ (L.length : Int) := by omega
      have hj0 : (0 : Int) ≤ (j : Int) := by omega
      have hjk : (j : Int) ≤ (k : Int) := by omega
      subst hvk
      by_cases hlt : k < s.length
      · obtain ⟨x, hx⟩ : ∃ x, s[k]? = some x := ⟨_, List.getElem?_eq_getElem hlt⟩
        have e0 : ((k : Int) == (s.length : Int)) = false := by simp; omega
        have k0 : (0 : Int) ≤ (k : Int) := by omega
        have k1 : (k : Int) < (s.length : Int) := by omega
        have hget : ((⟨s.toArray⟩ : ByteArray)[k]'(by simpa [ByteArray.size] using hlt)).toNat = x.toNat := congrArg UInt8.toNat (Option.some.inj ((List.getElem?_eq_getElem hlt).symm.trans hx))
        have hxl := x.toNat_lt
        have hcl := c.toNat_lt
        by_cases hxc : x = c
        · subst hxc
          have HS := Lib.hid (HCt.out.sep hj hx)
          clear hx
          have hext := ext_mid s j k
          obtain ⟨i0, hi, hz0, hz1, hz2⟩ := info_parts stringInfo
          have hbase : w.heap.size ≤ wr.heap.size := HC.out.size
          generalize (s.drop j).take (k - j) = seg at *
          go_wp2_with (at_builtin; refine wpList_append_own_at _ rfl (.tmp 25) (.tmp 30) 23 rfl w.heap.size 9 i0 _ 1 16 Tryd.underlying23 hi hz0 hz1 hz2 rfl (by decide) (.slice Ak L.length ck) L.length (strCells L) rfl (hown.alloc _) ⟨wr.heap.size, 0, none⟩ 1 1 [.string ⟨seg.toArray⟩] rfl rfl (World.news_of_block (heap_alloc_new _ _)) (by simp [Value.oneCell']) (by unfold maxLen; omega) (by omega) (by simp; omega) ?_)
          intro v1 w1 hown1 hgrow1 _ hat1
          have HC1 := Lib.hid (HC.out.trans (((Ch.refl (fun k => w.heap.size ≤ k) wr).alloc (.cells #[.string ⟨seg.toArray⟩] 9)).grown hgrow1 (fun k hk => .inl (hown.lt k hk).1)) (fun k hk => .inr hk))
          have hown2 : w1.ownsRow w.heap.size 9 1 v1 (L ++ [seg]).length (strCells (L ++ [seg])) := by
            have e : strCells (L ++ [seg]) = strCells L ++ [.string ⟨seg.toArray⟩] := by simp [strCells]
            rw [e, List.length_append]
            exact hown1
          clear hat1 hgrow1 hown1 hown hext
          go_wp2
          go_roundw
          case rel => exact ⟨k + 1, k + 1, L ++ [seg], by go_num, by go_num, by omega, by omega, hown2, by simp <;> omega, HS, HC1⟩
          case measure => simp [intOf]; omega
        · have e1 : ((x.toNat : Int) == (c.toNat : Int)) = false := by
            simp
            intro e
            exact hxc (UInt8.toNat_inj.1 (by omega))
          have HS := Lib.hid (HCt.out.no hlt (fun e => hxc (by rw [hx] at e; exact Option.some.inj e)))
          clear hx hxc
          go_wp2
          go_roundw
          case rel => exact ⟨k + 1, j, L, rfl, by go_num, by omega, by omega, hown, by omega, HS, HC⟩
          case measure => simp [intOf]; omega
      · have hkn : k = s.length := by omega
        subst hkn
        have e0 : ((s.length : Int) == (s.length : Int)) = true := by simp
        have HS := Lib.hid (HCt.out.last hj)
        have k0 : (0 : Int) ≤ (s.length : Int) := by omega
        have hext := ext_mid s j s.length
        obtain ⟨i0, hi, hz0, hz1, hz2⟩ := info_parts stringInfo
        have hbase : w.heap.size ≤ wr.heap.size := HC.out.size
        generalize (s.drop j).take (s.length - j) = seg at *
        go_wp2_with (at_builtin; refine wpList_append_own_at _ rfl (.tmp 25) (.tmp 30) 23 rfl w.heap.size 9 i0 _ 1 16 Tryd.underlying23 hi hz0 hz1 hz2 rfl (by decide) (.slice Ak L.length ck) L.length (strCells L) rfl (hown.alloc _) ⟨wr.heap.size, 0, none⟩ 1 1 [.string ⟨seg.toArray⟩] rfl rfl (World.news_of_block (heap_alloc_new _ _)) (by simp [Value.oneCell']) (by unfold maxLen; omega) (by omega) (by simp; omega) ?_)
        intro v1 w1 hown1 hgrow1 _ hat1
        have HC1 := Lib.hid (HC.out.trans (((Ch.refl (fun k => w.heap.size ≤ k) wr).alloc (.cells #[.string ⟨seg.toArray⟩] 9)).grown hgrow1 (fun k hk => .inl (hown.lt k hk).1)) (fun k hk => .inr hk))
        have hown2 : w1.ownsRow w.heap.size 9 1 v1 (L ++ [seg]).length (strCells (L ++ [seg])) := by
          have e : strCells (L ++ [seg]) = strCells L ++ [.string ⟨seg.toArray⟩] := by simp [strCells]
          rw [e, List.length_append]
          exact hown1
        clear hat1 hgrow1 hown1 hown hext
        go_wp2
        go_roundw
        case rel => exact ⟨s.length + 1, s.length + 1, L ++ [seg], by go_num, by go_num, by omega, by omega, hown2, by simp <;> omega, HS, HC1⟩
        case measure => simp [intOf]
    · have i1 : ¬ (k : Int) ≤ (s.length : Int) := by omega
      have hL : L = splitF c s := HCt.out.2 (by omega)
      subst hL
      go_wp2
      go_ret
      exact ⟨_, Ret1 rfl, hown, HC.out⟩
end Go.Proofs.YtlfimcpceiemnaaDoor
