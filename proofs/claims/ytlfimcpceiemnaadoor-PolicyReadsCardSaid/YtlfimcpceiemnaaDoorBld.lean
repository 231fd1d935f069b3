/- strings.Builder, in a block of whatever type that begins with one: copyCheck, WriteString, String. -/
import Derived.Test.YtlfimcpceiemnaaDoorPolW8
set_option linter.unusedVariables false
namespace Go.Proofs.YtlfimcpceiemnaaDoor
open Go Go.RowKit

theorem append_str_at {P : Program} {w : World} {base : Nat} {t u ty e : TypeId} {i : TypeInfo} (ht : P.underlying t = some (.slice e)) (hu : P.underlying u = some .string) (hi : P.info? e = some i) (hz : i.zero = some (.int .u8 0))
    (hsize : i.size = 1) (hby : i.bytes = 1) {v : Value} {n : Nat} {xs : List Value} (hown : w.ownsRow base e 1 v n xs) (s : ByteArray)
    (h63 : n + s.size ≤ maxLen) (hbytes : n + s.size ≤ 140737488355328) {v' : Value} {w' : World} (hr : (Builtin.append_ #[t, u] ty #[v, .string s]).run P w = .ok v' w') :
    v'.ownBlock = v.ownBlock ∨ ∀ k, v'.ownBlock = some k → w.heap.size ≤ k := by
  have hxl : xs.length = n := by simpa using hown.1
  have hsmall : n + s.size ≤ 9223372036854775807 := by simp only [maxLen] at h63; omega
  rcases hown.2 with ⟨rfl, rfl⟩ | ⟨g, cap, cur, rfl, hbg, hg, hnc, hcm, hcs, htake⟩
  · right
    have hx : xs = [] := List.eq_nil_of_length_eq_zero hxl
    subst hx
    obtain ⟨v2, w2, h1, h2, h3, h4⟩ := Lib.run_append_own_string (P := P) w w.heap.size t u ty e i ht hu hi hz hsize hby (.slice none 0 0) 0 [] (World.ownsRow_nil w _ e 1) s h63 hbytes (Nat.le_refl _)
    rw [h1] at hr
    injection hr with e1 e2
    subst e1
    exact fun k hk => (h2.lt k hk).1
  · by_cases hroom : n + s.size ≤ cap
    · have hcs' : cur.size = cap := by simpa using hcs
      rw [Lib.run_append_room_string (P := P) w t u ty e i ht hu hi hsize g n cap cur hg s hroom (by omega)] at hr
      injection hr with e1 e2
      subst e1
      exact .inl rfl
    · have holds : ∀ j u, xs[j]? = some u → w.cell? ((⟨g, 0, none⟩ : Addr).add j) = some u := hown.cells (g := g) rfl
      rw [Lib.run_append_grow_string (P := P) w t u ty e i (.int .u8 0) ht hu hi hz ⟨g, 0, none⟩ n cap xs (by rw [hsize]; simpa using hxl) holds s (by omega) (by omega) (by rw [hby]; exact growslice_fits (by omega) (by omega))] at hr
      injection hr with e1 e2
      subst e1
      right
      intro k hk
      simp [Value.ownBlock] at hk
      omega
theorem wpList_append_str {P : Program} (w : World) {ops : Array Oper} {rest : List Oper} {o : Oper} {a : Act} {Q : Exit → Act → World → Prop} (hgd : o.guard = none) (sl x : Operand) (t u : TypeId)
    (ho : o.op = .call { callee := .builtin .append, args := #[sl, x], argTypes := #[t, u] })
    (base : Nat) (e : TypeId) (i : TypeInfo) (ht : P.underlying t = some (.slice e)) (hu : P.underlying u = some .string) (hi : P.info? e = some i) (hz : i.zero = some (.int .u8 0))
    (hsize : i.size = 1) (hby : i.bytes = 1)
    (v : Value) (n : Nat) (xs : List Value) (hs : a.eval sl = v) (hown : w.ownsRow base e 1 v n xs) (s : ByteArray) (hx : a.eval x = .string s)
    (h63 : n + s.size ≤ maxLen) (hbytes : n + s.size ≤ 140737488355328) (hbase : base ≤ w.heap.size)
    (h : ∀ v' w', w'.ownsRow base e 1 v' (n + s.size) (xs ++ Lib.strCells s) → w.grownBy w' v.ownBlock → (v'.ownBlock = v.ownBlock ∨ ∀ k, v'.ownBlock = some k → w.heap.size ≤ k) → wpList P ops Q rest (a.put o.dst v') w') : wpList P ops Q (o :: rest) a w := by
  refine wpList_plain hgd fun K hK => ?_
  obtain ⟨v', w', hr, h2, h3, h4⟩ := Lib.run_append_own_string (P := P) w base t u o.type e i ht hu hi hz hsize hby v n xs hown s h63 hbytes hbase
  have h5 := append_str_at ht hu hi hz hsize hby hown s h63 hbytes hr
  unfold Oper.wp execOp
  simp only [ho, resolve, invoke, builtin, Sem.run_bind, Sem.run_pure, Result.andThen_ok, List.map_toArray, List.map_cons, List.map_nil, hs, hx, hr]
  exact hK _ _ (h v' w' h2 h3 h5)
/-- A builder at the head of block b (a block of type T), which holds bs; m: what lasts beside it. -/
structure BldAt (T : TypeId) (m : Mem) (w : World) (B b : Nat) (bs : Str) : Prop where
  ok : m.ok w
  free : m.free b
  ge : B ≤ b
  size : B ≤ w.heap.size
  row : ∃ p v, w.heap[b]? = some (.cells #[p, v] T (0, 0)) ∧ (p = .pointer none ∨ p = .pointer (some ⟨b, 0, none⟩)) ∧ w.ownsRow B 5 1 v bs.length (Lib.byteCells bs) ∧ (∀ k, v.ownBlock = some k → k ≠ b ∧ m.free k)
/-- What is asked of the block's type. -/
def BldTy (T : TypeId) : Prop := liesAt Tryd.prog Tryd.prog.depth T (2 / Tryd.prog.cellsOf T) 0 60 1 = true
theorem bldInfo : (Tryd.prog.info? 60).map (fun i => i.size != 0) = some true := by kernel_rfl
set_option maxHeartbeats 1000000 in
set_option maxRecDepth 100000 in
theorem check_calls {T : TypeId} (hT : BldTy T) (b : Nat) (w : World) {p v : Value} (hb : w.heap[b]? = some (.cells #[p, v] T (0, 0))) (hp : p = .pointer none ∨ p = .pointer (some ⟨b, 0, none⟩)) :
    Calls Tryd.prog 57 #[.pointer (some ⟨b, 0, none⟩)] w fun e w' => e = .returned (.tuple #[]) ∧ w'.heap[b]? = some (.cells #[.pointer (some ⟨b, 0, none⟩), v] T (0, 0)) ∧ Ch (fun k => k = b) w w' := by
  have c0 : w.cell? ⟨b, 0, none⟩ = some p := by rw [Lib.cell_of_heap hb]; rfl
  have hsh : w.shape? b = some (T, 2) := by simp [World.shape?, hb]
  have f0 : w.frozen? ⟨b, 0, none⟩ = false := Lib.frozen_of_heap hb 0
  obtain ⟨j, hj, hjs⟩ := Option.map_eq_some_iff.1 bldInfo
  have hjs' : j.size ≠ 0 := by simpa using hjs
  have Hb := Lib.hid hb
  have Hsh := Lib.hid hsh
  have Hj := Lib.hid hj
  have HT := Lib.hid hT
  clear hb hsh hj hT hjs
  rcases hp with rfl | rfl
  · go_enter Tryd.func57, Tryd.ntmps57
    go_wp2
    rw [Lib.run_to_unsafe w ⟨b, 0, none⟩ (by kernel_rfl) (by kernel_rfl) Hj.out hjs' Hsh.out (Nat.zero_lt_succ 1)]
    simp only [Result.andThen]
    rw [Oper.upon_value]
    go_wp2
    rw [run_callFunc_extern Tryd.func76 (by kernel_rfl) (by kernel_rfl) (by kernel_rfl) (e := Extern.AbiNoEscape.same) (by kernel_rfl)]
    rw [Lib.run_noEscape]
    simp only [Result.andThen]
    rw [Oper.upon_value]
    go_wp2
    rw [Lib.run_from_unsafe w ⟨b, 0, none⟩ (by kernel_rfl) (by kernel_rfl) Hj.out Hsh.out HT.out]
    simp only [Result.andThen]
    rw [Oper.upon_value]
    go_wp2
    go_end0
    exact ⟨rfl, by simp [World.setCell, Array.getElem?_modify, Hb.out], (Ch.refl (fun k => k = b) w).setCell (p := ⟨b, 0, none⟩) (.inl rfl) _⟩
  · go_enter Tryd.func57, Tryd.ntmps57
    go_wp2
    rw [Lib.run_neq_ptr_same w _ (by kernel_rfl) Hj.out]
    go_wp2
    go_end0
    exact ⟨rfl, Hb.out, Ch.refl _ w⟩
theorem Ch.size_le {S : Nat → Prop} {a b : World} (h : Ch S a b) : a.heap.size ≤ b.heap.size := h.size
theorem byteCells_app (a b : Str) : Lib.byteCells (a ++ b) = Lib.byteCells a ++ Lib.byteCells b := by simp [Lib.byteCells]
theorem strCells_bytes (s : Str) : Lib.strCells ⟨s.toArray⟩ = Lib.byteCells s := by simp [Lib.strCells, Lib.byteCells]
theorem byteInfo : (Tryd.prog.info? 5).map (fun i => (i.zero, i.size, i.bytes)) = some (some (.int .u8 0), 1, 1) := by kernel_rfl
set_option maxHeartbeats 1000000 in
set_option maxRecDepth 100000 in
theorem write_calls {T : TypeId} (hT : BldTy T) (hT5 : T ≠ 5) {m : Mem} {w : World} {B b : Nat} {bs : Str} (h : BldAt T m w B b bs) (s : Str) (hl : bs.length + s.length ≤ 140737488355328) :
    Calls Tryd.prog 31 #[.pointer (some ⟨b, 0, none⟩), .string ⟨s.toArray⟩] w fun e w' => e = .returned (.tuple #[.int .i64 s.length, .nilIface]) ∧ BldAt T m w' B b (bs ++ s) ∧ Ch (fun k => B ≤ k) w w' := by
  obtain ⟨hok, hfree, hge, hsz, p, v, hb, hp, hown, hne⟩ := h
  obtain ⟨i0, hi, hz0, hz1, hz2⟩ := info_parts byteInfo
  have HC := Lib.hid (check_calls hT b w hb hp)
  have hs0 : (⟨s.toArray⟩ : ByteArray).size = s.length := by simp [ByteArray.size]
  have hblt : b < w.heap.size := (Array.getElem?_eq_some_iff.1 hb).1
  clear hb hp
  go_enter Tryd.func31, Tryd.ntmps31
  go_wp2_with fail
  refine HC.out.mono ?_
  rintro e w1 ⟨rfl, hb1, hc1⟩
  have hown1 := hc1.own hown (fun k hk he => (hne k hk).1 he)
  have hok1 := hok.ch hc1 (fun k hk => by subst hk; exact hfree)
  have c1 : w1.cell? ⟨b, 1, none⟩ = some v := by rw [Lib.cell_of_heap hb1]; rfl
  have hsz1 := hc1.size
  have HB := Lib.hid (fun k hk => (hown1.lt k hk).1)
  obtain ⟨ao, cap, rfl⟩ : ∃ ao cap, v = .slice ao bs.length cap := by
    rcases hown1.2 with ⟨hv, h0⟩ | ⟨g, cap, cur, hv, _⟩
    · exact ⟨none, 0, by rw [hv, h0]⟩
    · exact ⟨_, _, hv⟩
  have Hb1 := Lib.hid hb1
  have Hc1 := Lib.hid hc1
  have Hne := Lib.hid hne
  clear hb1 hc1 hne hown hok
  have hs63 : bs.length + (⟨s.toArray⟩ : ByteArray).size ≤ 140737488355328 := by rw [hs0]; exact hl
  have Hs0 := Lib.hid hs0
  clear hs0
  go_wp2_with (at_builtin; refine wpList_append_str _ rfl _ _ 58 9 rfl B 5 i0 Tryd.underlying58 Tryd.underlying9 hi hz0 hz1 hz2 _ _ _ rfl hown1 ⟨s.toArray⟩ rfl ?c3 ?c4 ?c5 ?_)
  case c3 => unfold maxLen; omega
  case c4 => exact hs63
  case c5 => omega
  intro v' w2 hown2 hgrow hat
  have hlt : b < w1.heap.size := by omega
  have hb2 : w2.heap[b]? = some (.cells #[.pointer (some ⟨b, 0, none⟩), .slice ao bs.length cap] T (0, 0)) := by
    rw [hgrow.block b hlt (fun e => (Hne.out b e.symm).1 rfl)]
    exact Hb1.out
  have d1 : w2.cell? ⟨b, 1, none⟩ = some (.slice ao bs.length cap) := by rw [Lib.cell_of_heap hb2]; rfl
  have f1 : w2.frozen? ⟨b, 1, none⟩ = false := Lib.frozen_of_heap hb2 1
  obtain ⟨ao', n', cap', rfl⟩ : ∃ ao n' cap, v' = .slice ao n' cap := by
    rcases hown2.2 with ⟨hv, _⟩ | ⟨g, cap, cur, hv, _⟩
    · exact ⟨_, _, _, hv⟩
    · exact ⟨_, _, _, hv⟩
  have Hown2 := Lib.hid hown2
  have Hb2 := Lib.hid hb2
  have Hgrow := Lib.hid hgrow
  have Hat := Lib.hid hat
  clear hown2 hb2 hgrow hat hown1
  go_wp2
  go_ret2
  have hc2 : Ch (fun k => B ≤ k) w1 w2 := Ch.of_grown Hgrow.out (fun k hk => HB.out k hk)
  have hc3 : Ch (fun k => B ≤ k) w w2 := (Hc1.out.mono (fun k hk => by subst hk; exact hge)).trans hc2 (fun k hk => .inl hk)
  have hneb : ∀ k, (Value.slice ao' n' cap').ownBlock = some k → k ≠ b ∧ m.free k := fun k hk => by
    rcases Hat.out with h1 | h1
    · exact Hne.out k (h1 ▸ hk)
    · have h2 := h1 k hk
      exact ⟨by omega, hok1.new h2⟩
  have hok2 : m.ok w2 := hok1.ch (Ch.of_grown (S := fun k => ∃ k', (Value.slice ao bs.length cap).ownBlock = some k' ∧ k = k') Hgrow.out (fun k hk => ⟨k, hk, rfl⟩)) (fun k hk => by
    obtain ⟨k', h1, rfl⟩ := hk
    exact (Hne.out _ h1).2)
  have hb3 : ((w2.setCell ⟨b, 1, none⟩ (.slice ao' n' cap')).heap[b]?) = some (.cells #[.pointer (some ⟨b, 0, none⟩), .slice ao' n' cap'] T (0, 0)) := by simp [World.setCell, Array.getElem?_modify, Hb2.out]
  have hcs : Ch (fun k => k = b) w2 (w2.setCell ⟨b, 1, none⟩ (.slice ao' n' cap')) := (Ch.refl (fun k => k = b) w2).setCell (p := ⟨b, 1, none⟩) (.inl rfl) _
  refine ⟨rfl, ⟨hok2.ch hcs (fun k hk => by subst hk; exact hfree), hfree, hge, ?_, _, _, hb3, .inr rfl, ?_, hneb⟩, ?_⟩
  · have := hcs.size
    have := hc3.size
    omega
  · have h1 := hcs.own Hown2.out (fun k hk he => (hneb k hk).1 he)
    rw [strCells_bytes, ← byteCells_app] at h1
    rw [List.length_append]
    exact h1
  · exact hc3.setCell (p := ⟨b, 1, none⟩) (.inl hge) _
set_option maxHeartbeats 2000000 in
set_option maxRecDepth 100000 in
theorem string_calls {T : TypeId} {m : Mem} {w : World} {B b : Nat} {l : Str} (h : BldAt T m w B b l) (h0 : l ≠ []) :
    Calls Tryd.prog 34 #[.pointer (some ⟨b, 0, none⟩)] w fun e w' => e = .returned (.string ⟨l.toArray⟩) ∧ Below B w w' := by
  obtain ⟨hok, hfree, hge, hsz, p, v, hbk, hp, hown, hne⟩ := h
  have hl0 : l.length ≠ 0 := by simpa using h0
  obtain ⟨g, cap, cur, rfl, hbg, hg, hnc, hcm, hcs, htake⟩ : ∃ g cap cur, v = .slice (some ⟨g, 0, none⟩) l.length cap ∧ B ≤ g ∧ w.heap[g]? = some (.cells cur 5 (0, 0)) ∧ l.length ≤ cap ∧ cap ≤ maxLen ∧ cur.size = cap * 1 ∧ cur.toList.take (l.length * 1) = Lib.byteCells l := by
    rcases hown.2 with ⟨_, hz⟩ | ⟨g, cap, cur, hv, r⟩
    · exact absurd hz hl0
    · exact ⟨g, cap, cur, hv, r⟩
  have c1 : w.drew.cell? ⟨b, 1, none⟩ = some (.slice (some ⟨g, 0, none⟩) l.length cap) := by
    have : w.drew.heap[b]? = some (.cells #[p, .slice (some ⟨g, 0, none⟩) l.length cap] T (0, 0)) := hbk
    rw [Lib.cell_of_heap this]; rfl
  have hSD : (Builtin.unsafeSliceData_ #[58] 87 #[.slice (some ⟨g, 0, none⟩) l.length cap]).run Tryd.prog w.drew = .ok (.pointer (some ⟨g, 0, none⟩)) w.drew :=
    Lib.run_unsafeSliceData_row _ _ _ _ _ _ (by omega)
  have hUS : (Builtin.unsafeString_ #[87, 3] 9 #[.pointer (some ⟨g, 0, none⟩), .int .i64 l.length]).run Tryd.prog w.drew = .ok (.string ⟨l.toArray⟩) (w.drew.freeze ⟨g, 0, none⟩ l.length) := by
    refine Lib.run_unsafeString_row w.drew 87 3 9 5 (by kernel_rfl) (by kernel_rfl) g cur.size (by have hg' : w.drew.heap[g]? = some (.cells cur 5 (0, 0)) := hg; simp [World.shape?, hg']) l h0 (by omega) (by unfold maxLen at hcm; omega) ?_
    intro j x hx
    have := hown.cells (g := g) rfl j (.int .u8 x.toNat) (by simp [Lib.byteCells, hx])
    exact this
  clear hne hbk hown hg htake hcs hcm hnc hp
  go_enter Tryd.func34, Tryd.ntmps34
  go_wp2
  go_region
  all_goals (go_wp2; go_ret; exact ⟨rfl, Lib.below_freeze (Below.drew (Below.refl B w)) (p := ⟨g, 0, none⟩) hbg _⟩)
/-- A new builder. -/
theorem BldAt.new {T : TypeId} {m : Mem} {w : World} (hok : m.ok w) (hT : T ≠ 5) : BldAt T m (w.alloc (.cells #[.pointer none, .slice none 0 0] T)) w.heap.size w.heap.size [] :=
  ⟨hok.below ((Below.refl _ _).alloc (Nat.le_refl _) _), hok.new (Nat.le_refl _), Nat.le_refl _, by simp, _, _, heap_alloc_new _ _, .inl rfl, World.ownsRow_nil _ _ _ _, fun k hk => by simp [Value.ownBlock] at hk⟩
theorem BldAt.ch {T : TypeId} {m m' : Mem} {w w' : World} {B b : Nat} {bs : Str} (h : BldAt T m w B b bs) {S : Nat → Prop} (hc : Ch S w w') (hS : ∀ k, S k → w.heap.size ≤ k) : BldAt T m w' B b bs := by
  obtain ⟨hok, hfree, hge, hsz, p, v, hbk, hp, hown, hne⟩ := h
  have hlt := (Array.getElem?_eq_some_iff.1 hbk).1
  refine ⟨hok.ch hc (fun k hk => hok.new (hS k hk)), hfree, hge, Nat.le_trans hsz hc.size, p, v, hc.heap hbk (fun hs => by have := hS b hs; omega), hp, hc.own hown (fun k hk hs => ?_), hne⟩
  have := hS k hs
  have := (hown.lt k hk).2
  omega
/-- More that lasts: what is laid behind. -/
theorem BldAt.more {T : TypeId} {m m' : Mem} {w : World} {B b : Nat} {bs : Str} (h : BldAt T m w B b bs) (hok : m'.ok w) (hf : ∀ k, k < w.heap.size → m.free k → m'.free k) : BldAt T m' w B b bs := by
  obtain ⟨_, hfree, hge, hsz, p, v, hbk, hp, hown, hne⟩ := h
  exact ⟨hok, hf b (Array.getElem?_eq_some_iff.1 hbk).1 hfree, hge, hsz, p, v, hbk, hp, hown, fun k hk => ⟨(hne k hk).1, hf k (hown.lt k hk).2 (hne k hk).2⟩⟩
end Go.Proofs.YtlfimcpceiemnaaDoor
