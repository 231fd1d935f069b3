/- policy.Read. -/
import Derived.Test.YtlfimcpceiemnaaDoorPolW12
set_option linter.unusedVariables false
namespace Go.Proofs.YtlfimcpceiemnaaDoor
open Go Go.RowKit

theorem taken_calls {m : Mem} (hE : EnvM m) {w : World} {B g : Nat} {p : Pol} (h : PolSt m w B g p) {v : Value} {ws : List Str} (hr : RdStrs m v ws) (hz : szW ws) (hl : ∀ L ∈ lists5 p, L.length ≤ 1000000000) :
    Calls Tryd.prog 25 #[.pointer (some ⟨g, 0, none⟩), v] w fun e w' => e = .returned (.tuple #[]) ∧ PolSt m w' B g (takeF atoiF p ws) ∧ Ch (fun k => B ≤ k) w w' := by
  have l1 := hl p.elems (by simp [lists5])
  have l2 := hl p.attrs (by simp [lists5])
  have l3 := hl p.schemes (by simp [lists5])
  have l4 := hl p.classes (by simp [lists5])
  have l5 := hl p.props (by simp [lists5])
  unfold takeF
  by_cases h4 : ws.length = 4
  · by_cases h0 : ws[0]?.getD [] = cCaps
    · rw [if_pos ⟨h4, h0⟩]; exact taken_caps hE h hr hz h4 h0
    · rw [if_neg (fun q => h0 q.2), if_pos (by omega)]; exact taken_four hE h hr hz h4 h0
  · rw [if_neg (fun q => h4 q.1)]
    by_cases h2 : ws.length = 2
    · rw [if_neg (by omega)]
      by_cases n0 : ws[0]?.getD [] = cEpoch
      · rw [if_pos n0]; exact taken_epoch hE h hr hz h2 n0
      · rw [if_neg n0]
        by_cases n1 : ws[0]?.getD [] = cElem
        · rw [if_pos n1]; exact taken_elems hE h hr hz h2 n0 n1 l1
        · rw [if_neg n1]
          by_cases n2 : ws[0]?.getD [] = cAttr
          · rw [if_pos n2]; exact taken_attrs hE h hr hz h2 n0 n1 n2 l2
          · rw [if_neg n2]
            by_cases n3 : ws[0]?.getD [] = cScheme
            · rw [if_pos n3]; exact taken_schemes hE h hr hz h2 n0 n1 n2 n3 l3
            · rw [if_neg n3]
              by_cases n4 : ws[0]?.getD [] = cClass
              · rw [if_pos n4]; exact taken_classes hE h hr hz h2 n0 n1 n2 n3 n4 l4
              · rw [if_neg n4]
                by_cases n5 : ws[0]?.getD [] = cProp
                · rw [if_pos n5]; exact taken_props hE h hr hz h2 n0 n1 n2 n3 n4 n5 l5
                · rw [if_neg n5]; exact taken_two hE h hr hz h2 n0 n1 n2 n3 n4 n5
    · rw [if_pos h2]; exact taken_none hE h hr hz h4 h2
theorem splitF_le (c : UInt8) : ∀ s : Str, (∀ x ∈ splitF c s, x.length ≤ s.length) ∧ (splitF c s).length ≤ s.length + 1
  | [] => by simp [splitF]
  | x :: s => by
    obtain ⟨h1, h2⟩ := splitF_le c s
    by_cases hx : x = c
    · subst hx
      rw [splitF_hit]
      refine ⟨fun y hy => ?_, by simp; omega⟩
      rcases List.mem_cons.1 hy with rfl | hy
      · simp
      · have := h1 y hy; simp; omega
    · obtain ⟨y, ys, hy⟩ : ∃ y ys, splitF c s = y :: ys := by
        cases h : splitF c s with
        | nil => exact absurd h (splitF_ne c s)
        | cons y ys => exact ⟨y, ys, rfl⟩
      rw [splitF_cons hx hy]
      rw [hy] at h1 h2
      refine ⟨fun z hz => ?_, by simpa using Nat.le_succ_of_le h2⟩
      rcases List.mem_cons.1 hz with rfl | hz
      · have := h1 y (by simp); simp; omega
      · have := h1 z (by simp [hz]); simp; omega
theorem split_calls {m : Mem} (hE : EnvM m) {w : World} (hw : m.ok w) (s : Str) (c : UInt8) (hs : s.length ≤ 1000000000) :
    Calls Tryd.prog 24 #[.string ⟨s.toArray⟩, .string ⟨#[c]⟩] w fun e w' => e = .returned (.slice (some ⟨w.heap.size, 0, none⟩) (splitF c s).length (splitF c s).length) ∧ w' = w.alloc (.cells (strCells (splitF c s)).toArray 9) := by
  obtain ⟨x, hx⟩ := hE.maxlen
  refine (Tryd.strings_Split ⟨s.toArray⟩ ⟨#[c]⟩ x w (by simp [ByteArray.size]; omega) (hw _ _ _ hx) (Nat.le_refl 1)).mono ?_
  rintro e w' ⟨rfl, rfl⟩
  rw [split_count, split_cells]
  exact ⟨rfl, rfl⟩
/-- How much a policy that is being read may hold. -/
def bnd (n M : Nat) (p : Pol) : Prop := ∀ L ∈ lists5 p, L.length ≤ n ∧ ∀ x ∈ L, x.length ≤ M
theorem bnd_step {n M : Nat} {p : Pol} {ws : List Str} (h : bnd n M p) (hw : ∀ x ∈ ws, x.length ≤ M) (num : Str → Int) : bnd (n + 1) M (takeF num p ws) := by
  have h0 : bnd (n + 1) M p := fun L hL => ⟨Nat.le_succ_of_le (h L hL).1, (h L hL).2⟩
  have hx : (ws[1]?.getD []).length ≤ M := by
    cases e : ws[1]? with
    | none => simp
    | some x => exact hw x (List.mem_of_getElem? e)
  have app : ∀ L : List Str, (L.length ≤ n ∧ ∀ x ∈ L, x.length ≤ M) → (L ++ [ws[1]?.getD []]).length ≤ n + 1 ∧ ∀ x ∈ L ++ [ws[1]?.getD []], x.length ≤ M := fun L hL => ⟨by simp; omega, fun x hx' => by
    rcases List.mem_append.1 hx' with h1 | h1
    · exact hL.2 x h1
    · rw [List.mem_singleton] at h1; subst h1; exact hx⟩
  have h1 := h p.elems (by simp [lists5])
  have h2 := h p.attrs (by simp [lists5])
  have h3 := h p.schemes (by simp [lists5])
  have h4 := h p.classes (by simp [lists5])
  have h5 := h p.props (by simp [lists5])
  have up : ∀ {L : List Str}, (L.length ≤ n ∧ ∀ x ∈ L, x.length ≤ M) → (L.length ≤ n + 1 ∧ ∀ x ∈ L, x.length ≤ M) := fun hL => ⟨Nat.le_succ_of_le hL.1, hL.2⟩
  have mk : ∀ q : Pol, (q.elems.length ≤ n + 1 ∧ ∀ x ∈ q.elems, x.length ≤ M) → (q.attrs.length ≤ n + 1 ∧ ∀ x ∈ q.attrs, x.length ≤ M) → (q.schemes.length ≤ n + 1 ∧ ∀ x ∈ q.schemes, x.length ≤ M) → (q.classes.length ≤ n + 1 ∧ ∀ x ∈ q.classes, x.length ≤ M) → (q.props.length ≤ n + 1 ∧ ∀ x ∈ q.props, x.length ≤ M) → bnd (n + 1) M q := by
    intro q a b c d e L hL
    simp only [lists5, List.mem_cons, List.not_mem_nil, or_false] at hL
    rcases hL with rfl | rfl | rfl | rfl | rfl
    · exact a
    · exact b
    · exact c
    · exact d
    · exact e
  unfold takeF
  repeat' split
  all_goals first
    | exact h0
    | exact mk _ (up h1) (up h2) (up h3) (up h4) (up h5)
    | exact mk _ (app _ h1) (up h2) (up h3) (up h4) (up h5)
    | exact mk _ (up h1) (app _ h2) (up h3) (up h4) (up h5)
    | exact mk _ (up h1) (up h2) (app _ h3) (up h4) (up h5)
    | exact mk _ (up h1) (up h2) (up h3) (app _ h4) (up h5)
    | exact mk _ (up h1) (up h2) (up h3) (up h4) (app _ h5)
def goK (s : Str) (k : Nat) : Pol := ((splitF 10 s).take k).foldl (fun p l => takeF atoiF p (splitF 32 l)) zeroP
theorem goK_succ {s l : Str} {k : Nat} (h : (splitF 10 s)[k]? = some l) : goK s (k + 1) = takeF atoiF (goK s k) (splitF 32 l) := by
  rw [goK, List.take_add_one, h, List.foldl_append, goK]; rfl
theorem goK_bnd (s : Str) : ∀ k, k ≤ (splitF 10 s).length → bnd k s.length (goK s k)
  | 0, _ => by
    intro L hL
    simp [goK, zeroP, lists5] at hL
    subst hL
    simp
  | k + 1, hk => by
    obtain ⟨l, hl⟩ : ∃ l, (splitF 10 s)[k]? = some l := ⟨_, List.getElem?_eq_getElem (by omega)⟩
    rw [goK_succ hl]
    have h1 := (splitF_le 10 s).1 l (List.mem_of_getElem? hl)
    exact bnd_step (goK_bnd s k (by omega)) (fun x hx => Nat.le_trans ((splitF_le 32 l).1 x hx) h1) _
theorem freeze1 {m : Mem} {w : World} {B g : Nat} {vs : List Value} {Ls : List (List Str)} (hok : m.ok w) (h : Own5 m w B g vs Ls) (hl : vs.length = Ls.length) :
    ∃ m', m.le m' ∧ m'.ok w ∧ (∀ (i : Nat) v L, vs[i]? = some v → Ls[i]? = some L → RdStrs m' v L) ∧ ∀ k, m.free k → (∀ (i : Nat) v, vs[i]? = some v → v.ownBlock ≠ some k) → m'.free k := by
  suffices H : ∀ n, n ≤ vs.length → ∃ m', m.le m' ∧ m'.ok w ∧ (∀ (i : Nat) v L, i < n → vs[i]? = some v → Ls[i]? = some L → RdStrs m' v L) ∧ (∀ (i : Nat) v k, n ≤ i → vs[i]? = some v → v.ownBlock = some k → m'.free k) ∧ ∀ k, m.free k → (∀ (i : Nat) v, vs[i]? = some v → v.ownBlock ≠ some k) → m'.free k by
    obtain ⟨m', h1, h2, h3, _, h5⟩ := H vs.length (Nat.le_refl _)
    exact ⟨m', h1, h2, fun i v L hv hL => h3 i v L (List.getElem?_eq_some_iff.1 hv).1 hv hL, h5⟩
  intro n
  induction n with
  | zero =>
    intro _
    refine ⟨m, Mem.le_refl m, hok, fun i v L hi => by omega, fun i v k _ hv hk => ?_, fun k hk _ => hk⟩
    have hi := (List.getElem?_eq_some_iff.1 hv).1
    obtain ⟨L, hL⟩ : ∃ L, Ls[i]? = some L := ⟨_, List.getElem?_eq_getElem (by omega)⟩
    exact ((h.1 i v L hv hL).2 k hk).2
  | succ n ih =>
    intro hn
    obtain ⟨m1, h1, h2, h3, h4, h5⟩ := ih (by omega)
    obtain ⟨v, hv⟩ : ∃ v, vs[n]? = some v := ⟨_, List.getElem?_eq_getElem (by omega)⟩
    obtain ⟨L, hL⟩ : ∃ L, Ls[n]? = some L := ⟨_, List.getElem?_eq_getElem (by omega)⟩
    obtain ⟨m2, k1, k2, k3, k4⟩ := freeze h2 (h.1 n v L hv hL).1 (fun k hk => h4 n v k (Nat.le_refl _) hv hk)
    refine ⟨m2, Mem.le_trans h1 k1, k2, fun i u M hi hu hM => ?_, fun i u k hi hu hk => ?_, fun k hk hn => k4 k (h5 k hk hn) (hn n v hv)⟩
    · by_cases e : i = n
      · subst e
        rw [hv] at hu; injection hu with hu
        rw [hL] at hM; injection hM with hM
        subst hu hM
        exact k3
      · exact (h3 i u M (by omega) hu hM).le k1
    · refine k4 k (h4 i u k (by omega) hu hk) (fun e => ?_)
      have := h.2 n i v u k hv hu e hk
      omega
theorem Mem.free_of_le {m m' : Mem} (h : m.le m') {k : Nat} (hf : m'.free k) : m.free k := ⟨fun o => (by
  cases e : m k o with
  | none => rfl
  | some v => have := h k o v e; rw [hf o] at this; cases this), hf.out⟩
theorem PolSt.less {m m' : Mem} {w : World} {B g : Nat} {p : Pol} (hl : m.le m') (h : PolSt m' w B g p) : PolSt m w B g p := by
  obtain ⟨hok, hf, hge, hsz, v1, v2, v3, v4, v5, hb, ho⟩ := h
  exact ⟨hok.of_le hl, Mem.free_of_le hl hf, hge, hsz, v1, v2, v3, v4, v5, hb, fun i v L hv hL => ⟨(ho.1 i v L hv hL).1, fun k hk => ⟨((ho.1 i v L hv hL).2 k hk).1, Mem.free_of_le hl ((ho.1 i v L hv hL).2 k hk).2⟩⟩, ho.2⟩
theorem PolSt.alloc_with {m : Mem} {w : World} {B g : Nat} {p : Pol} (h : PolSt m w B g p) (cs : List Value) (t : TypeId) : PolSt (m.with w.heap.size cs) (w.alloc (.cells cs.toArray t)) B g p := by
  obtain ⟨hok, hf, hge, hsz, v1, v2, v3, v4, v5, hb, ho⟩ := h
  have hblt := (Array.getElem?_eq_some_iff.1 hb).1
  have hc := (Ch.refl (fun _ => False) w).alloc (.cells cs.toArray t)
  have ho2 := ho.keep rfl hc (fun _ _ _ _ _ h => h)
  exact ⟨Mem.with_ok hok cs t, Mem.with_free cs (by omega) hf, hge, Nat.le_trans hsz hc.size, v1, v2, v3, v4, v5, hc.heap hb (fun h => h), fun i v L hv hL => ⟨(ho2.1 i v L hv hL).1, fun k hk => ⟨((ho2.1 i v L hv hL).2 k hk).1, Mem.with_free cs (by have := ((ho.1 i v L hv hL).1.lt k hk).2; omega) ((ho2.1 i v L hv hL).2 k hk).2⟩⟩, ho2.2⟩
theorem with_strs (m : Mem) (g : Nat) (xs : List Str) (hl : xs.length ≤ 1000000000) : RdStrs (m.with g (strCells xs)) (.slice (some ⟨g, 0, none⟩) xs.length xs.length) xs :=
  ⟨by simp [strCells], _, xs.length, rfl, ⟨Nat.le_refl _, by omega⟩, fun _ => ⟨g, 0, rfl, fun i u hu => by rw [Mem.with_at, Nat.zero_add]; exact hu⟩⟩
theorem PolSt.new {m : Mem} {w : World} (hok : m.ok w) : PolSt m (w.alloc (.cells (polCells zeroP (.slice none 0 0) (.slice none 0 0) (.slice none 0 0) (.slice none 0 0) (.slice none 0 0)) 25)) w.heap.size w.heap.size zeroP := by
  refine ⟨hok.below ((Below.refl _ _).alloc (Nat.le_refl _) _), hok.new (Nat.le_refl _), Nat.le_refl _, by simp, _, _, _, _, _, heap_alloc_new _ _, ?_, ?_⟩
  · intro i v L hv hL
    have hi := (List.getElem?_eq_some_iff.1 hv).1
    match i, hi with
    | 0, _ => simp [lists5, zeroP] at hv hL; subst hv hL; exact ⟨World.ownsRow_nil _ _ _ _, fun k hk => by simp [Value.ownBlock] at hk⟩
    | 1, _ => simp [lists5, zeroP] at hv hL; subst hv hL; exact ⟨World.ownsRow_nil _ _ _ _, fun k hk => by simp [Value.ownBlock] at hk⟩
    | 2, _ => simp [lists5, zeroP] at hv hL; subst hv hL; exact ⟨World.ownsRow_nil _ _ _ _, fun k hk => by simp [Value.ownBlock] at hk⟩
    | 3, _ => simp [lists5, zeroP] at hv hL; subst hv hL; exact ⟨World.ownsRow_nil _ _ _ _, fun k hk => by simp [Value.ownBlock] at hk⟩
    | 4, _ => simp [lists5, zeroP] at hv hL; subst hv hL; exact ⟨World.ownsRow_nil _ _ _ _, fun k hk => by simp [Value.ownBlock] at hk⟩
  · intro i j v u k hv hu hk
    have hi := (List.getElem?_eq_some_iff.1 hv).1
    match i, hi with
    | 0, _ => simp at hv; subst hv; simp [Value.ownBlock] at hk
    | 1, _ => simp at hv; subst hv; simp [Value.ownBlock] at hk
    | 2, _ => simp at hv; subst hv; simp [Value.ownBlock] at hk
    | 3, _ => simp at hv; subst hv; simp [Value.ownBlock] at hk
    | 4, _ => simp at hv; subst hv; simp [Value.ownBlock] at hk
/-- Stores into one block. -/
theorem stores_ch (w : World) (r : Nat) : ∀ a : List (Nat × Value), Ch (fun k => k = r) w (a.foldl (fun w x => w.setCell ⟨r, x.1, none⟩ x.2) w)
  | [] => Ch.refl _ _
  | x :: a => ((Ch.refl (fun k => k = r) w).setCell (p := ⟨r, x.1, none⟩) (.inl rfl) x.2).trans (stores_ch (w.setCell ⟨r, x.1, none⟩ x.2) r a) (fun _ h => .inl h)
theorem nine {w : World} {r : Nat} {a0 a1 a2 a3 a4 a5 a6 a7 a8 b0 b1 b2 b3 b4 b5 b6 b7 b8 : Value} {T : TypeId} (h : w.heap[r]? = some (.cells #[a0, a1, a2, a3, a4, a5, a6, a7, a8] T (0, 0))) :
    (((((((((w.setCell ⟨r, 0, none⟩ b0).setCell ⟨r, 1, none⟩ b1).setCell ⟨r, 2, none⟩ b2).setCell ⟨r, 3, none⟩ b3).setCell ⟨r, 4, none⟩ b4).setCell ⟨r, 5, none⟩ b5).setCell ⟨r, 6, none⟩ b6).setCell ⟨r, 7, none⟩ b7).setCell ⟨r, 8, none⟩ b8).heap[r]? = some (.cells #[b0, b1, b2, b3, b4, b5, b6, b7, b8] T (0, 0)) ∧ Ch (fun k => k = r) w (((((((((w.setCell ⟨r, 0, none⟩ b0).setCell ⟨r, 1, none⟩ b1).setCell ⟨r, 2, none⟩ b2).setCell ⟨r, 3, none⟩ b3).setCell ⟨r, 4, none⟩ b4).setCell ⟨r, 5, none⟩ b5).setCell ⟨r, 6, none⟩ b6).setCell ⟨r, 7, none⟩ b7).setCell ⟨r, 8, none⟩ b8) := by
  refine ⟨?_, stores_ch w r [(0, b0), (1, b1), (2, b2), (3, b3), (4, b4), (5, b5), (6, b6), (7, b7), (8, b8)]⟩
  simp [World.setCell, Array.getElem?_modify, h]
/-- What a reading hands back. -/
def ReadPost (num : Str → Int) (m : Mem) (s : Str) (w : World) (e : Ending) (w' : World) : Prop :=
  ∃ v1 v2 v3 v4 v5 m', e = .returned (.tuple #[.agg (polCells ((readF num s).getD zeroP) v1 v2 v3 v4 v5), .int .i64 (if (readF num s).isSome = true then 0 else 2)]) ∧ m.le m' ∧ m'.ok w' ∧ RdPol m' ((readF num s).getD zeroP) v1 v2 v3 v4 v5 ∧ Ch (fun _ => False) w w'
set_option maxHeartbeats 3200000 in
set_option maxRecDepth 100000 in
theorem pread_calls {m : Mem} (hE : EnvM m) (w : World) (hw : m.ok w) (s : Str) (hs : s.length ≤ 100000000) :
    Calls Tryd.prog 11 #[.string ⟨s.toArray⟩] w (ReadPost atoiF m s w) := by
  have hZ0 := (Ch.refl (fun _ => False) w).alloc (.cells (polCells zeroP (.slice none 0 0) (.slice none 0 0) (.slice none 0 0) (.slice none 0 0) (.slice none 0 0)) 25)
  have hok1 := hw.ch hZ0 (fun _ h => h.elim)
  have hP := PolSt.new hok1
  have hr := heap_alloc_new w (.cells (polCells zeroP (.slice none 0 0) (.slice none 0 0) (.slice none 0 0) (.slice none 0 0) (.slice none 0 0)) 25)
  have hC1 := hZ0.alloc (.cells (polCells zeroP (.slice none 0 0) (.slice none 0 0) (.slice none 0 0) (.slice none 0 0) (.slice none 0 0)) 25)
  have hsz1 : (w.alloc (.cells (polCells zeroP (.slice none 0 0) (.slice none 0 0) (.slice none 0 0) (.slice none 0 0) (.slice none 0 0)) 25)).heap.size = w.heap.size + 1 := by simp
  rw [hsz1] at hP
  have hr1 := ((Ch.refl (fun _ => False) (w.alloc (.cells (polCells zeroP (.slice none 0 0) (.slice none 0 0) (.slice none 0 0) (.slice none 0 0) (.slice none 0 0)) 25))).alloc (.cells (polCells zeroP (.slice none 0 0) (.slice none 0 0) (.slice none 0 0) (.slice none 0 0) (.slice none 0 0)) 25)).heap hr (fun h => h)
  unfold polCells zeroP at hP hr1 hC1
  dsimp only at hP hr1 hC1
  clear hZ0 hok1 hr hsz1
  have H0 := Lib.hid hP
  have HR := Lib.hid hr1
  have HC := Lib.hid hC1
  have HFr := Lib.hid (show m.free w.heap.size from hw.new (Nat.le_refl _))
  clear hP hr1 hC1
  go_enter Tryd.func11, Tryd.ntmps11
  go_upto_region 2 with fail
  obtain ⟨W, hW⟩ : ∃ W : World, W = (w.alloc (.cells #[.int .i64 0, .slice none 0 0, .slice none 0 0, .slice none 0 0, .slice none 0 0, .slice none 0 0, .int .i64 0, .int .i64 0, .int .i64 0] 25)).alloc (.cells #[.int .i64 0, .slice none 0 0, .slice none 0 0, .slice none 0 0, .slice none 0 0, .slice none 0 0, .int .i64 0, .int .i64 0, .int .i64 0] 25) := ⟨_, rfl⟩
  have H0' : Hid (PolSt m W (w.heap.size + 1) (w.heap.size + 1) zeroP) := by rw [hW]; exact H0
  have HR' : Hid (W.heap[w.heap.size]? = some (.cells #[.int .i64 0, .slice none 0 0, .slice none 0 0, .slice none 0 0, .slice none 0 0, .slice none 0 0, .int .i64 0, .int .i64 0, .int .i64 0] 25)) := by rw [hW]; exact HR
  have HC' : Hid (Ch (fun _ => False) w W) := by rw [hW]; exact HC
  rw [← hW]
  clear H0 HR HC hW
  have hgW : w.heap.size + 1 < W.heap.size := by
    obtain ⟨v1, v2, v3, v4, v5, hb, _⟩ := H0'.out.row
    exact (Array.getElem?_eq_some_iff.1 hb).1
  generalize hr0 : w.heap.size = r at *
  have Hr0 := Lib.hid hr0
  clear hr0 hw
  have HS := Lib.hid (split_calls hE H0'.out.ok s 10 (by omega))
  go_wp2_with fail
  refine HS.out.mono ?_
  rintro e W' ⟨rfl, rfl⟩
  have H1 := Lib.hid (H0'.out.alloc_with (strCells (splitF 10 s)) 9)
  have HFr1 := Lib.hid (Mem.with_free (strCells (splitF 10 s)) (show r ≠ W.heap.size by omega) HFr.out)
  have hle := Mem.le_with (strCells (splitF 10 s)) (H0'.out.ok.new (Nat.le_refl _))
  have HL := Lib.hid (with_strs m W.heap.size (splitF 10 s) (by have := (splitF_le 10 s).2; omega))
  have hX := (Ch.refl (fun _ => False) W).alloc (.cells (strCells (splitF 10 s)).toArray 9)
  have HR1 := Lib.hid (hX.heap HR'.out (fun h => h))
  have HC1 := Lib.hid (HC'.out.trans hX (fun _ h => .inl h))
  have hE1 := hE.le hle
  have Hle := Lib.hid hle
  have hn := (splitF_le 10 s).2
  have HG := Lib.hid (show ∀ k, k ≤ (splitF 10 s).length → bnd k s.length (goK s k) from goK_bnd s)
  have HGf := Lib.hid (show goK s (splitF 10 s).length = goF atoiF zeroP s by rw [goK, List.take_length]; rfl)
  have HGs := Lib.hid (fun k l => goK_succ (s := s) (k := k) (l := l))
  have HGl := Lib.hid (splitF_le 10 s).1
  have HG0 := Lib.hid (show goK s 0 = zeroP from rfl)
  clear hX HR' HC' HS hle hE H0'
  generalize hXX : W.alloc _ = X at *
  clear hXX
  generalize W.heap.size = lb at *
  generalize hm1 : m.with lb _ = m1 at *
  clear hm1
  generalize splitF 10 s = ls at *
  go_wp2
  go_loopw [12] (fun i wr => ∃ k : Nat, k ≤ ls.length ∧ i = .int .i64 k ∧ Hid (PolSt m1 wr (r + 1) (r + 1) (goK s k)) ∧ Hid (Ch (fun k => r + 1 ≤ k) X wr)) (fun i _ => ls.length - (intOf i).toNat)
  case atStart => exact ⟨0, Nat.zero_le _, rfl, by rw [HG0.out]; exact H1, Ch.refl _ X⟩
  case round =>
    rename World => wr
    clear H1
    obtain ⟨k, hk, rfl, H1, H2⟩ := hrel
    by_cases hlt : k < ls.length
    · obtain ⟨l, hl⟩ : ∃ l, ls[k]? = some l := ⟨_, List.getElem?_eq_getElem hlt⟩
      obtain ⟨bA, oA, hA, hc⟩ : ∃ b o, (some ⟨lb, 0, none⟩ : Option Addr) = some ⟨b, o, none⟩ ∧ ∀ k, k < ls.length → wr.cell? ⟨b, o + k, none⟩ = some (.string ⟨(ls[k]?.getD []).toArray⟩) := by
        rcases (strs_cell H1.out.ok HL.out).2.2 with h0 | h0
        · rw [h0] at hlt; simp at hlt
        · exact h0
      injection hA with hA
      injection hA with e1 e2
      subst e1 e2
      have hck := hc k hlt
      rw [hl, Option.getD_some, Nat.zero_add] at hck
      have hki : (k : Int) < (ls.length : Int) := by omega
      have hki0 : (0 : Int) ≤ (k : Int) := by omega
      have hll := HGl.out l (List.mem_of_getElem? hl)
      have HS := Lib.hid (split_calls hE1 H1.out.ok l 32 (by omega))
      have HT := Lib.hid (fun hz hb => taken_calls (hE1.le (Mem.le_with (strCells (splitF 32 l)) (H1.out.ok.new (Nat.le_refl _)))) (H1.out.alloc_with (strCells (splitF 32 l)) 9) (with_strs m1 wr.heap.size (splitF 32 l) (by have := (splitF_le 32 l).2; omega)) hz hb)
      have hz : szW (splitF 32 l) := ⟨by have := (splitF_le 32 l).2; omega, fun x hx => by have := (splitF_le 32 l).1 x hx; omega⟩
      have hb : ∀ L ∈ lists5 (goK s k), L.length ≤ 1000000000 := fun L hL => by have := (HG.out k hk L hL).1; omega
      have HT2 := Lib.hid (HT.out hz hb)
      have HK := Lib.hid (HGs.out k l hl)
      have HF := Lib.hid (Mem.le_with (strCells (splitF 32 l)) (H1.out.ok.new (Nat.le_refl wr.heap.size)))
      have HC3 := Lib.hid (H2.out.alloc (.cells (strCells (splitF 32 l)).toArray 9))
      clear hc hl HT hz hb
      go_wp2_with fail
      refine HS.out.mono ?_
      rintro e W' ⟨rfl, rfl⟩
      go_wp2_with fail
      refine HT2.out.mono ?_
      rintro e w3 ⟨rfl, h3, c3⟩
      have H3 := Lib.hid (h3.less HF.out)
      have HC4 := Lib.hid (HC3.out.trans c3 (fun k hk => .inl hk))
      clear h3 c3
      go_wp2
      go_roundw
      case rel => exact ⟨k + 1, by omega, by go_num, by rw [HK.out]; exact H3, HC4⟩
      case measure => simp [intOf]; omega
    · have hkn : k = ls.length := by omega
      subst hkn
      have hki : ¬ (ls.length : Int) < (ls.length : Int) := by omega
      have hbd := HG.out ls.length (Nat.le_refl _)
      rw [HGf.out] at H1 hbd
      obtain ⟨hok, hf, hge, hsz, v1, v2, v3, v4, v5, hb, ho⟩ := H1.out
      obtain ⟨m', hl1, hok', hrd, hfr⟩ := freeze1 hok ho rfl
      have HFr2 := Lib.hid (hfr r HFr1.out (fun i v hv hk => by
        have hi := (List.getElem?_eq_some_iff.1 hv).1
        obtain ⟨L, hL⟩ : ∃ L, (lists5 (goF atoiF zeroP s))[i]? = some L := ⟨_, List.getElem?_eq_getElem (show i < (lists5 (goF atoiF zeroP s)).length from hi)⟩
        have := ((ho.1 i v L hv hL).1.lt r hk).1
        omega))
      have r1 := hrd 0 v1 (goF atoiF zeroP s).elems rfl rfl
      have r2 := hrd 1 v2 (goF atoiF zeroP s).attrs rfl rfl
      have r3 := hrd 2 v3 (goF atoiF zeroP s).schemes rfl rfl
      have r4 := hrd 3 v4 (goF atoiF zeroP s).classes rfl rfl
      have r5 := hrd 4 v5 (goF atoiF zeroP s).props rfl rfl
      have hpz : (goF atoiF zeroP s).sz := by
        have one : ∀ L ∈ lists5 (goF atoiF zeroP s), szS L := fun L hL => ⟨by have := (hbd L hL).1; omega, fun x hx => by have := (hbd L hL).2 x hx; omega⟩
        exact ⟨one _ (by simp [lists5]), one _ (by simp [lists5]), one _ (by simp [lists5]), one _ (by simp [lists5]), one _ (by simp [lists5])⟩
      have HT := Lib.hid (ptext_calls (hE1.le hl1) wr hok' hpz ⟨r1, r2, r3, r4, r5⟩)
      have HRd := Lib.hid (show RdPol m' (goF atoiF zeroP s) v1 v2 v3 v4 v5 from ⟨r1, r2, r3, r4, r5⟩)
      have Hle' := Lib.hid (Mem.le_trans Hle.out hl1)
      have Hok' := Lib.hid hok'
      have y0 : wr.cell? ⟨r + 1, 0, none⟩ = some (.int .i64 (goF atoiF zeroP s).epoch) := by rw [cell_of_row wr _ 0 _ _ _ hb]; rfl
      have y1 : wr.cell? ⟨r + 1, 1, none⟩ = some v1 := by rw [cell_of_row wr _ 1 _ _ _ hb]; rfl
      have y2 : wr.cell? ⟨r + 1, 2, none⟩ = some v2 := by rw [cell_of_row wr _ 2 _ _ _ hb]; rfl
      have y3 : wr.cell? ⟨r + 1, 3, none⟩ = some v3 := by rw [cell_of_row wr _ 3 _ _ _ hb]; rfl
      have y4 : wr.cell? ⟨r + 1, 4, none⟩ = some v4 := by rw [cell_of_row wr _ 4 _ _ _ hb]; rfl
      have y5 : wr.cell? ⟨r + 1, 5, none⟩ = some v5 := by rw [cell_of_row wr _ 5 _ _ _ hb]; rfl
      have y6 : wr.cell? ⟨r + 1, 6, none⟩ = some (.int .i64 (goF atoiF zeroP s).depth) := by rw [cell_of_row wr _ 6 _ _ _ hb]; rfl
      have y7 : wr.cell? ⟨r + 1, 7, none⟩ = some (.int .i64 (goF atoiF zeroP s).nodes) := by rw [cell_of_row wr _ 7 _ _ _ hb]; rfl
      have y8 : wr.cell? ⟨r + 1, 8, none⟩ = some (.int .i64 (goF atoiF zeroP s).bytes) := by rw [cell_of_row wr _ 8 _ _ _ hb]; rfl
      have Hb := Lib.hid hb
      clear hfr hrd r1 r2 r3 r4 r5 hpz hok hok' hl1 hbd ho hb
      have HRF := Lib.hid (show readF atoiF s = if rightF (goF atoiF zeroP s) = true ∧ textF (goF atoiF zeroP s) = s then some (goF atoiF zeroP s) else none from rfl)
      generalize goF atoiF zeroP s = q at *
      unfold polCells at HT
      have HR4 := Lib.hid (H2.out.heap HR1.out (fun h => by omega))
      have HC4 := Lib.hid (HC1.out.trans (H2.out.mono' (T := fun k => r + 1 ≤ k) (fun _ h => .inl h)) (fun k hk => .inr (by have := Hr0.out; omega)))
      go_wp2_with fail
      cases hR : rightF q with
      | false =>
        have hT := HT.out
        rw [textR, textE, if_neg (by simp [hR]), if_neg (by simp [hR])] at hT
        refine hT.mono ?_
        rintro e w4 ⟨rfl, c4⟩
        clear hT
        have hr4 := c4.heap HR4.out (fun h => h)
        have HC5 := Lib.hid (HC4.out.trans c4 (fun _ h => .inl h))
        have Hok4 := Lib.hid (Hok'.out.ch c4 (fun _ h => h.elim))
        have Hfin := Lib.hid (show readF atoiF s = none by rw [HRF.out, if_neg (fun h => by rw [hR] at h; cases h.1)])
        have q0 : w4.cell? ⟨r, 0, none⟩ = some (.int .i64 0) := by rw [cell_of_row w4 _ 0 _ _ _ hr4]; rfl
        have f0 : w4.frozen? ⟨r, 0, none⟩ = false := Lib.frozen_of_heap hr4 0
        have q1 : w4.cell? ⟨r, 1, none⟩ = some (.slice none 0 0) := by rw [cell_of_row w4 _ 1 _ _ _ hr4]; rfl
        have f1 : w4.frozen? ⟨r, 1, none⟩ = false := Lib.frozen_of_heap hr4 1
        have q2 : w4.cell? ⟨r, 2, none⟩ = some (.slice none 0 0) := by rw [cell_of_row w4 _ 2 _ _ _ hr4]; rfl
        have f2 : w4.frozen? ⟨r, 2, none⟩ = false := Lib.frozen_of_heap hr4 2
        have q3 : w4.cell? ⟨r, 3, none⟩ = some (.slice none 0 0) := by rw [cell_of_row w4 _ 3 _ _ _ hr4]; rfl
        have f3 : w4.frozen? ⟨r, 3, none⟩ = false := Lib.frozen_of_heap hr4 3
        have q4 : w4.cell? ⟨r, 4, none⟩ = some (.slice none 0 0) := by rw [cell_of_row w4 _ 4 _ _ _ hr4]; rfl
        have f4 : w4.frozen? ⟨r, 4, none⟩ = false := Lib.frozen_of_heap hr4 4
        have q5 : w4.cell? ⟨r, 5, none⟩ = some (.slice none 0 0) := by rw [cell_of_row w4 _ 5 _ _ _ hr4]; rfl
        have f5 : w4.frozen? ⟨r, 5, none⟩ = false := Lib.frozen_of_heap hr4 5
        have q6 : w4.cell? ⟨r, 6, none⟩ = some (.int .i64 0) := by rw [cell_of_row w4 _ 6 _ _ _ hr4]; rfl
        have f6 : w4.frozen? ⟨r, 6, none⟩ = false := Lib.frozen_of_heap hr4 6
        have q7 : w4.cell? ⟨r, 7, none⟩ = some (.int .i64 0) := by rw [cell_of_row w4 _ 7 _ _ _ hr4]; rfl
        have f7 : w4.frozen? ⟨r, 7, none⟩ = false := Lib.frozen_of_heap hr4 7
        have q8 : w4.cell? ⟨r, 8, none⟩ = some (.int .i64 0) := by rw [cell_of_row w4 _ 8 _ _ _ hr4]; rfl
        have f8 : w4.frozen? ⟨r, 8, none⟩ = false := Lib.frozen_of_heap hr4 8
        have Hr4 := Lib.hid hr4
        clear y0 y1 y2 y3 y4 y5 y6 y7 y8 c4 hr4 hR HRF
        go_wp2
        have h9 := nine (b0 := .int .i64 0) (b1 := .slice none 0 0) (b2 := .slice none 0 0) (b3 := .slice none 0 0) (b4 := .slice none 0 0) (b5 := .slice none 0 0) (b6 := .int .i64 0) (b7 := .int .i64 0) (b8 := .int .i64 0) Hr4.out
        clear q0 q1 q2 q3 q4 q5 q6 q7 q8 f0 f1 f2 f3 f4 f5 f6 f7 f8
        generalize hF : World.setCell _ _ _ = F at *
        clear hF
        obtain ⟨hF1, hF2⟩ := h9
        have HF2 := Lib.hid hF2
        clear hF2
        have y0 : F.cell? ⟨r, 0, none⟩ = some (.int .i64 0) := by rw [cell_of_row F _ 0 _ _ _ hF1]; rfl
        have y1 : F.cell? ⟨r, 1, none⟩ = some (.slice none 0 0) := by rw [cell_of_row F _ 1 _ _ _ hF1]; rfl
        have y2 : F.cell? ⟨r, 2, none⟩ = some (.slice none 0 0) := by rw [cell_of_row F _ 2 _ _ _ hF1]; rfl
        have y3 : F.cell? ⟨r, 3, none⟩ = some (.slice none 0 0) := by rw [cell_of_row F _ 3 _ _ _ hF1]; rfl
        have y4 : F.cell? ⟨r, 4, none⟩ = some (.slice none 0 0) := by rw [cell_of_row F _ 4 _ _ _ hF1]; rfl
        have y5 : F.cell? ⟨r, 5, none⟩ = some (.slice none 0 0) := by rw [cell_of_row F _ 5 _ _ _ hF1]; rfl
        have y6 : F.cell? ⟨r, 6, none⟩ = some (.int .i64 0) := by rw [cell_of_row F _ 6 _ _ _ hF1]; rfl
        have y7 : F.cell? ⟨r, 7, none⟩ = some (.int .i64 0) := by rw [cell_of_row F _ 7 _ _ _ hF1]; rfl
        have y8 : F.cell? ⟨r, 8, none⟩ = some (.int .i64 0) := by rw [cell_of_row F _ 8 _ _ _ hF1]; rfl
        clear hF1
        refine bodyPost_ret (v := .tuple #[.agg (polCells zeroP (.slice none 0 0) (.slice none 0 0) (.slice none 0 0) (.slice none 0 0) (.slice none 0 0)), .int .i64 2]) (by simp [results, Tryd.results11, go_sem, polCells, zeroP, y0, y1, y2, y3, y4, y5, y6, y7, y8]) rfl ?_
        refine ⟨_, _, _, _, _, m', by rw [Hfin.out]; rfl, Hle'.out, Hok4.out.ch HF2.out (fun k hk => by subst hk; exact HFr2.out), by rw [Hfin.out]; exact ⟨SlV.nil _ _, SlV.nil _ _, SlV.nil _ _, SlV.nil _ _, SlV.nil _ _⟩, ?_⟩
        exact HC5.out.trans HF2.out (fun k hk => .inr (by have := Hr0.out; omega))
      | true =>
        have hT := HT.out
        rw [textR, textE, if_pos hR, if_pos hR] at hT
        refine hT.mono ?_
        rintro e w4 ⟨rfl, c4⟩
        clear hT
        have hr4 := c4.heap HR4.out (fun h => h)
        have hb4 := c4.heap Hb.out (fun h => h)
        have HC5 := Lib.hid (HC4.out.trans c4 (fun _ h => .inl h))
        have Hok4 := Lib.hid (Hok'.out.ch c4 (fun _ h => h.elim))
        have z0 := c4.cell y0 (fun h => h)
        have z1 := c4.cell y1 (fun h => h)
        have z2 := c4.cell y2 (fun h => h)
        have z3 := c4.cell y3 (fun h => h)
        have z4 := c4.cell y4 (fun h => h)
        have z5 := c4.cell y5 (fun h => h)
        have z6 := c4.cell y6 (fun h => h)
        have z7 := c4.cell y7 (fun h => h)
        have z8 := c4.cell y8 (fun h => h)
        have q0 : w4.cell? ⟨r, 0, none⟩ = some (.int .i64 0) := by rw [cell_of_row w4 _ 0 _ _ _ hr4]; rfl
        have f0 : w4.frozen? ⟨r, 0, none⟩ = false := Lib.frozen_of_heap hr4 0
        have q1 : w4.cell? ⟨r, 1, none⟩ = some (.slice none 0 0) := by rw [cell_of_row w4 _ 1 _ _ _ hr4]; rfl
        have f1 : w4.frozen? ⟨r, 1, none⟩ = false := Lib.frozen_of_heap hr4 1
        have q2 : w4.cell? ⟨r, 2, none⟩ = some (.slice none 0 0) := by rw [cell_of_row w4 _ 2 _ _ _ hr4]; rfl
        have f2 : w4.frozen? ⟨r, 2, none⟩ = false := Lib.frozen_of_heap hr4 2
        have q3 : w4.cell? ⟨r, 3, none⟩ = some (.slice none 0 0) := by rw [cell_of_row w4 _ 3 _ _ _ hr4]; rfl
        have f3 : w4.frozen? ⟨r, 3, none⟩ = false := Lib.frozen_of_heap hr4 3
        have q4 : w4.cell? ⟨r, 4, none⟩ = some (.slice none 0 0) := by rw [cell_of_row w4 _ 4 _ _ _ hr4]; rfl
        have f4 : w4.frozen? ⟨r, 4, none⟩ = false := Lib.frozen_of_heap hr4 4
        have q5 : w4.cell? ⟨r, 5, none⟩ = some (.slice none 0 0) := by rw [cell_of_row w4 _ 5 _ _ _ hr4]; rfl
        have f5 : w4.frozen? ⟨r, 5, none⟩ = false := Lib.frozen_of_heap hr4 5
        have q6 : w4.cell? ⟨r, 6, none⟩ = some (.int .i64 0) := by rw [cell_of_row w4 _ 6 _ _ _ hr4]; rfl
        have f6 : w4.frozen? ⟨r, 6, none⟩ = false := Lib.frozen_of_heap hr4 6
        have q7 : w4.cell? ⟨r, 7, none⟩ = some (.int .i64 0) := by rw [cell_of_row w4 _ 7 _ _ _ hr4]; rfl
        have f7 : w4.frozen? ⟨r, 7, none⟩ = false := Lib.frozen_of_heap hr4 7
        have q8 : w4.cell? ⟨r, 8, none⟩ = some (.int .i64 0) := by rw [cell_of_row w4 _ 8 _ _ _ hr4]; rfl
        have f8 : w4.frozen? ⟨r, 8, none⟩ = false := Lib.frozen_of_heap hr4 8
        have Hr4 := Lib.hid hr4
        clear y0 y1 y2 y3 y4 y5 y6 y7 y8 c4 hb4 hr4
        by_cases ht : textF q = s
        · have e1 : (textF q == s) = true := by simp [ht]
          have e2 : (textF q != s) = false := by simp [ht]
          have Hfin := Lib.hid (show readF atoiF s = some q by rw [HRF.out, if_pos ⟨hR, ht⟩])
          clear ht hR HRF
          generalize textF q = t at *
          obtain ⟨A1, c1, e1⟩ := rdstrs_form HRd.out.r1
          obtain ⟨A2, c2, e2⟩ := rdstrs_form HRd.out.r2
          obtain ⟨A3, c3, e3⟩ := rdstrs_form HRd.out.r3
          obtain ⟨A4, c4, e4⟩ := rdstrs_form HRd.out.r4
          obtain ⟨A5, c5, e5⟩ := rdstrs_form HRd.out.r5
          subst e1 e2 e3 e4 e5
          go_wp2
          have h9 := nine (b0 := .int .i64 q.epoch) (b1 := .slice A1 q.elems.length c1) (b2 := .slice A2 q.attrs.length c2) (b3 := .slice A3 q.schemes.length c3) (b4 := .slice A4 q.classes.length c4) (b5 := .slice A5 q.props.length c5) (b6 := .int .i64 q.depth) (b7 := .int .i64 q.nodes) (b8 := .int .i64 q.bytes) Hr4.out
          clear q0 q1 q2 q3 q4 q5 q6 q7 q8 f0 f1 f2 f3 f4 f5 f6 f7 f8 z0 z1 z2 z3 z4 z5 z6 z7 z8
          generalize hF : World.setCell _ _ _ = F at *
          clear hF
          obtain ⟨hF1, hF2⟩ := h9
          have HF2 := Lib.hid hF2
          have HF1 := Lib.hid hF1
          clear hF2
          have y0 : F.cell? ⟨r, 0, none⟩ = some (.int .i64 q.epoch) := by rw [cell_of_row F _ 0 _ _ _ hF1]; rfl
          have y1 : F.cell? ⟨r, 1, none⟩ = some (.slice A1 q.elems.length c1) := by rw [cell_of_row F _ 1 _ _ _ hF1]; rfl
          have y2 : F.cell? ⟨r, 2, none⟩ = some (.slice A2 q.attrs.length c2) := by rw [cell_of_row F _ 2 _ _ _ hF1]; rfl
          have y3 : F.cell? ⟨r, 3, none⟩ = some (.slice A3 q.schemes.length c3) := by rw [cell_of_row F _ 3 _ _ _ hF1]; rfl
          have y4 : F.cell? ⟨r, 4, none⟩ = some (.slice A4 q.classes.length c4) := by rw [cell_of_row F _ 4 _ _ _ hF1]; rfl
          have y5 : F.cell? ⟨r, 5, none⟩ = some (.slice A5 q.props.length c5) := by rw [cell_of_row F _ 5 _ _ _ hF1]; rfl
          have y6 : F.cell? ⟨r, 6, none⟩ = some (.int .i64 q.depth) := by rw [cell_of_row F _ 6 _ _ _ hF1]; rfl
          have y7 : F.cell? ⟨r, 7, none⟩ = some (.int .i64 q.nodes) := by rw [cell_of_row F _ 7 _ _ _ hF1]; rfl
          have y8 : F.cell? ⟨r, 8, none⟩ = some (.int .i64 q.bytes) := by rw [cell_of_row F _ 8 _ _ _ hF1]; rfl
          clear hF1
          refine bodyPost_ret (v := .tuple #[.agg (polCells q (.slice A1 q.elems.length c1) (.slice A2 q.attrs.length c2) (.slice A3 q.schemes.length c3) (.slice A4 q.classes.length c4) (.slice A5 q.props.length c5)), .int .i64 0]) (by simp [results, Tryd.results11, go_sem, polCells, y0, y1, y2, y3, y4, y5, y6, y7, y8]) rfl ?_
          refine ⟨_, _, _, _, _, m', by rw [Hfin.out]; rfl, Hle'.out, Hok4.out.ch HF2.out (fun k hk => by subst hk; exact HFr2.out), by rw [Hfin.out]; exact HRd.out, ?_⟩
          exact HC5.out.trans HF2.out (fun k hk => .inr (by have := Hr0.out; omega))
        · have e1 : (textF q == s) = false := by simpa using ht
          have e2 : (textF q != s) = true := by simpa using ht
          have Hfin := Lib.hid (show readF atoiF s = none by rw [HRF.out, if_neg (fun h => ht h.2)])
          clear ht hR HRF z0 z1 z2 z3 z4 z5 z6 z7 z8
          generalize textF q = t at *
          go_wp2
          have h9 := nine (b0 := .int .i64 0) (b1 := .slice none 0 0) (b2 := .slice none 0 0) (b3 := .slice none 0 0) (b4 := .slice none 0 0) (b5 := .slice none 0 0) (b6 := .int .i64 0) (b7 := .int .i64 0) (b8 := .int .i64 0) Hr4.out
          clear q0 q1 q2 q3 q4 q5 q6 q7 q8 f0 f1 f2 f3 f4 f5 f6 f7 f8
          generalize hF : World.setCell _ _ _ = F at *
          clear hF
          obtain ⟨hF1, hF2⟩ := h9
          have HF2 := Lib.hid hF2
          clear hF2
          have y0 : F.cell? ⟨r, 0, none⟩ = some (.int .i64 0) := by rw [cell_of_row F _ 0 _ _ _ hF1]; rfl
          have y1 : F.cell? ⟨r, 1, none⟩ = some (.slice none 0 0) := by rw [cell_of_row F _ 1 _ _ _ hF1]; rfl
          have y2 : F.cell? ⟨r, 2, none⟩ = some (.slice none 0 0) := by rw [cell_of_row F _ 2 _ _ _ hF1]; rfl
          have y3 : F.cell? ⟨r, 3, none⟩ = some (.slice none 0 0) := by rw [cell_of_row F _ 3 _ _ _ hF1]; rfl
          have y4 : F.cell? ⟨r, 4, none⟩ = some (.slice none 0 0) := by rw [cell_of_row F _ 4 _ _ _ hF1]; rfl
          have y5 : F.cell? ⟨r, 5, none⟩ = some (.slice none 0 0) := by rw [cell_of_row F _ 5 _ _ _ hF1]; rfl
          have y6 : F.cell? ⟨r, 6, none⟩ = some (.int .i64 0) := by rw [cell_of_row F _ 6 _ _ _ hF1]; rfl
          have y7 : F.cell? ⟨r, 7, none⟩ = some (.int .i64 0) := by rw [cell_of_row F _ 7 _ _ _ hF1]; rfl
          have y8 : F.cell? ⟨r, 8, none⟩ = some (.int .i64 0) := by rw [cell_of_row F _ 8 _ _ _ hF1]; rfl
          clear hF1
          refine bodyPost_ret (v := .tuple #[.agg (polCells zeroP (.slice none 0 0) (.slice none 0 0) (.slice none 0 0) (.slice none 0 0) (.slice none 0 0)), .int .i64 2]) (by simp [results, Tryd.results11, go_sem, polCells, zeroP, y0, y1, y2, y3, y4, y5, y6, y7, y8]) rfl ?_
          refine ⟨_, _, _, _, _, m', by rw [Hfin.out]; rfl, Hle'.out, Hok4.out.ch HF2.out (fun k hk => by subst hk; exact HFr2.out), by rw [Hfin.out]; exact ⟨SlV.nil _ _, SlV.nil _ _, SlV.nil _ _, SlV.nil _ _, SlV.nil _ _⟩, ?_⟩
          exact HC5.out.trans HF2.out (fun k hk => .inr (by have := Hr0.out; omega))
end Go.Proofs.YtlfimcpceiemnaaDoor
