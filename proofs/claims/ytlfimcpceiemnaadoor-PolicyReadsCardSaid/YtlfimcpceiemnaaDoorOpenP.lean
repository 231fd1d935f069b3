/- A reading of a policy, as the memory's; what the listed variables hold. -/
import Derived.Test.YtlfimcpceiemnaaDoorPolW8
import Derived.Test.YtlfimcpceiemnaaDoorRows
import Derived.Deep.Slices
import Derived.ProofKit
import Derived.LaidMore
import Derived.MakeChecks
import Derived.Lib.LaidU8
import Derived.Shelf.Vars
import Derived.Handed
set_option linter.unusedVariables false
namespace Go.Proofs.YtlfimcpceiemnaaDoor
open Go Go.RowKit Go.ChangeShapes Go.WideShapes Go.Deep

/-- Rows one behind the other. -/
theorem gather {α : Type} (R : α → List Value → Prop) (w : World) (sz b o : Nat) : ∀ n : Nat,
    (∀ i, i < n → ∃ x row, R x row ∧ row.length = sz ∧ ∀ k, k < sz → w.cell? ⟨b, o + (i * sz + k), none⟩ = row[k]?) →
    ∃ l : List (α × List Value), l.length = n ∧ (∀ p ∈ l, R p.1 p.2) ∧ (l.flatMap (·.2)).length = n * sz ∧ RowAt (memAll w) b o (l.flatMap (·.2))
  | 0, _ => ⟨[], rfl, by simp, by simp, fun i v h => by simp at h⟩
  | n + 1, h => by
    obtain ⟨l, h1, h2, h3, h4⟩ := gather R w sz b o n (fun i hi => h i (by omega))
    obtain ⟨x, row, hR, hl, hc⟩ := h n (by omega)
    refine ⟨l ++ [(x, row)], by simp [h1], ?_, ?_, ?_⟩
    · intro p hp
      rcases List.mem_append.1 hp with hp | hp
      · exact h2 p hp
      · rw [List.mem_singleton] at hp; subst hp; exact hR
    · rw [List.flatMap_append, List.length_append, h3]; simp [hl, Nat.add_mul]
    · intro i v hv
      rw [List.flatMap_append] at hv
      by_cases hi : i < n * sz
      · rw [List.getElem?_append_left (by omega)] at hv
        exact h4 i v hv
      · rw [List.getElem?_append_right (by omega), h3] at hv
        have hv' : row[i - n * sz]? = some v := by simpa using hv
        have hk : i - n * sz < sz := by
          have := (List.getElem?_eq_some_iff.1 hv').1
          omega
        have := hc (i - n * sz) hk
        rw [show n * sz + (i - n * sz) = i by omega] at this
        show w.cell? ⟨b, o + i, none⟩ = some v
        rw [this]; exact hv'
section
variable {H : Type} {enc : TypeId × Value → H} {P : Program} {w : World} {base : Nat} {spare : Nat → Bool} {held : Bool}
/-- A slice's rows, each read as an R. -/
theorem read_rows {α : Type} (R : α → List Value → Prop) {t e : TypeId} {fuel sz : Nat} {cs : List Value} {x : DataW H × List MemPlace} (ht : P.underlying t = some (.slice e)) (hc : P.cellsOf e = sz) (hz : 0 < sz)
    (h : DataW.trod enc P w base spare held fuel t cs = some x) (hR : ∀ n row y, DataW.trod enc P w base spare held n e row = some y → ∃ z, R z row) :
    ∃ (v : Value) (l : List (α × List Value)), cs = [v] ∧ (∀ p ∈ l, R p.1 p.2) ∧ SlV (memAll w) sz v l.length (l.flatMap (·.2)) := by
  rcases open_slice ht h with ⟨rfl, _⟩ | ⟨a, len, cap, m, n, D, Pl, rfl, hb, hl, hm, hmm, _, hE⟩
  · exact ⟨_, [], rfl, by simp, SlV.nil _ _⟩
  · have hle : len ≤ m := by rw [hmm]; split <;> omega
    have hmax : cap ≤ 9223372036854775807 := hm
    rcases Nat.eq_zero_or_pos len with h0 | h0
    · subst h0
      exact ⟨_, [], rfl, by simp, by simp, some a, cap, rfl, ⟨by simp, hmax⟩, fun h => absurd h (by simp)⟩
    · obtain ⟨b, o, spot⟩ := a
      have hspot : spot = none := by
        obtain ⟨cs', k1, _⟩ := hE 0 (by omega)
        obtain ⟨_, k2, k3⟩ := World.cells?_some k1
        have k4 := k3 0 (by omega)
        obtain ⟨c0, hc0⟩ : ∃ c0, cs'[0]? = some c0 := ⟨_, List.getElem?_eq_getElem (by omega)⟩
        rw [hc0] at k4
        simpa [Addr.add] using World.cell?_spot k4
      subst hspot
      obtain ⟨l, l1, l2, l3, l4⟩ := gather R w sz b o len (fun i hi => by
        obtain ⟨cs', k1, k2⟩ := hE i (by omega)
        obtain ⟨_, k3, k4⟩ := World.cells?_some k1
        obtain ⟨z, hz2⟩ := hR _ _ _ k2
        refine ⟨z, cs', hz2, by omega, fun k hk => ?_⟩
        have := k4 k (by omega)
        rw [add_plain, add_plain, hc, Nat.add_assoc] at this
        exact this)
      subst l1
      exact ⟨_, l, rfl, l2, l3, some ⟨b, o, none⟩, cap, rfl, ⟨hl, hmax⟩, fun _ => ⟨b, o, rfl, l4⟩⟩
/-- A struct's fields. -/
theorem read_fields {t : TypeId} {fs : List (TypeId × Nat)} {fuel : Nat} {cs : List Value} {x : DataW H × List MemPlace} (ht : ((P.underlying t).map fun u => match u with | .struct fs => fs.toList.map (fun f => (f.type, f.offset)) | _ => []) = some fs) (hne : fs ≠ [])
    (h : DataW.trod enc P w base spare held fuel t cs = some x) :
    cs.length = P.cellsOf t ∧ ∃ n, ∀ (i : Nat) (f : TypeId × Nat), fs[i]? = some f → ∃ y, DataW.trod enc P w base spare held n f.1 ((cs.drop f.2).take (P.cellsOf f.1)) = some y := by
  cases hu : P.underlying t with
  | none => rw [hu] at ht; simp at ht
  | some u =>
    rw [hu] at ht
    cases u with
    | struct gs =>
      simp only [Option.map_some, Option.some.injEq] at ht
      obtain ⟨xs, n, _, _, hl, hxl, hf⟩ := DataW.trod_struct hu h
      refine ⟨hl, n, fun i f hi => ?_⟩
      rw [← ht, List.getElem?_map] at hi
      obtain ⟨g, hg, rfl⟩ := Option.map_eq_some_iff.1 hi
      have hg' : gs[i]? = some g := by simpa using hg
      have hlt : i < xs.length := by rw [hxl]; exact (Array.getElem?_eq_some_iff.1 hg').1
      exact ⟨xs[i], by rw [hf i g hg', List.getElem?_eq_getElem hlt]⟩
    | _ => simp at ht; exact absurd ht.symm (by simpa using hne)
end
theorem polT : ((Tryd.prog.underlying 25).map fun u => match u with | .struct fs => fs.toList.map (fun f => (f.type, f.offset)) | _ => []) =
    some [(3, 0), (23, 1), (23, 2), (23, 3), (23, 4), (23, 5), (3, 6), (3, 7), (3, 8)] := by kernel_rfl
theorem strsT : Tryd.prog.underlying 23 = some (.slice 9) := by kernel_rfl
theorem strT : Tryd.prog.underlying 9 = some .string := by kernel_rfl
theorem intT : Tryd.prog.underlying 3 = some (.int .i64) := by kernel_rfl
theorem boolT : Tryd.prog.underlying 4 = some .bool := by kernel_rfl
theorem polC : Tryd.prog.cellsOf 25 = 9 := by kernel_rfl
theorem strC : Tryd.prog.cellsOf 9 = 1 := by kernel_rfl
theorem intC : Tryd.prog.cellsOf 3 = 1 := by kernel_rfl
theorem strsC : Tryd.prog.cellsOf 23 = 1 := by kernel_rfl
section
variable {H : Type} {enc : TypeId × Value → H} {w : World} {base : Nat} {spare : Nat → Bool} {held : Bool}
theorem str_list (s : ByteArray) : (⟨s.data.toList.toArray⟩ : ByteArray) = s := by cases s; simp
theorem read_strs {fuel : Nat} {cs : List Value} {x : DataW H × List MemPlace} (h : DataW.trod enc Tryd.prog w base spare held fuel 23 cs = some x) : ∃ v xs, cs = [v] ∧ RdStrs (memAll w) v xs := by
  obtain ⟨v, l, rfl, hl, hs⟩ := read_rows (fun (s : Str) row => row = [.string ⟨s.toArray⟩]) strsT strC (by decide) h (fun n row y hy => by
    obtain ⟨s0, e0, _, _⟩ := DataW.trod_string strT hy
    subst e0
    exact ⟨s0.data.toList, by rw [str_list]⟩)
  refine ⟨v, l.map (·.1), rfl, ?_⟩
  have : strCells (l.map (·.1)) = l.flatMap (·.2) := by
    rw [strCells]
    clear hs
    induction l with
    | nil => rfl
    | cons p l ih =>
      rw [List.map_cons, List.map_cons, List.flatMap_cons, ih (fun q hq => hl q (by simp [hq])), hl p (by simp)]
      rfl
  rw [RdStrs, this, List.length_map]
  exact hs
theorem list9 {cs : List Value} (h : cs.length = 9) : ∃ c0 c1 c2 c3 c4 c5 c6 c7 c8, cs = [c0, c1, c2, c3, c4, c5, c6, c7, c8] := by
  rcases cs with _ | ⟨c0, _ | ⟨c1, _ | ⟨c2, _ | ⟨c3, _ | ⟨c4, _ | ⟨c5, _ | ⟨c6, _ | ⟨c7, _ | ⟨c8, _ | ⟨c9, cs⟩⟩⟩⟩⟩⟩⟩⟩⟩⟩ <;> simp only [List.length_cons, List.length_nil] at h <;> first | (exfalso; omega) | exact ⟨_, _, _, _, _, _, _, _, _, rfl⟩
theorem read_pol {fuel : Nat} {cs : List Value} {x : DataW H × List MemPlace} (h : DataW.trod enc Tryd.prog w base spare held fuel 25 cs = some x) :
    ∃ p v1 v2 v3 v4 v5, cs = (polCells p v1 v2 v3 v4 v5).toList ∧ RdPol (memAll w) p v1 v2 v3 v4 v5 := by
  obtain ⟨k1, n, k2⟩ := read_fields polT (by simp) h
  rw [polC] at k1
  obtain ⟨c0, c1, c2, c3, c4, c5, c6, c7, c8, rfl⟩ := list9 k1
  · obtain ⟨_, y0⟩ := k2 0 _ rfl
    obtain ⟨_, y1⟩ := k2 1 _ rfl
    obtain ⟨_, y2⟩ := k2 2 _ rfl
    obtain ⟨_, y3⟩ := k2 3 _ rfl
    obtain ⟨_, y4⟩ := k2 4 _ rfl
    obtain ⟨_, y5⟩ := k2 5 _ rfl
    obtain ⟨_, y6⟩ := k2 6 _ rfl
    obtain ⟨_, y7⟩ := k2 7 _ rfl
    obtain ⟨_, y8⟩ := k2 8 _ rfl
    simp only [intC, strsC] at y0 y1 y2 y3 y4 y5 y6 y7 y8
    obtain ⟨n0, e0, _, _⟩ := DataW.trod_int intT y0
    obtain ⟨w1, x1, e1, r1⟩ := read_strs y1
    obtain ⟨w2, x2, e2, r2⟩ := read_strs y2
    obtain ⟨w3, x3, e3, r3⟩ := read_strs y3
    obtain ⟨w4, x4, e4, r4⟩ := read_strs y4
    obtain ⟨w5, x5, e5, r5⟩ := read_strs y5
    obtain ⟨n6, e6, _, _⟩ := DataW.trod_int intT y6
    obtain ⟨n7, e7, _, _⟩ := DataW.trod_int intT y7
    obtain ⟨n8, e8, _, _⟩ := DataW.trod_int intT y8
    simp only [List.drop_zero, List.drop_succ_cons, List.take_succ_cons, List.take_zero, List.cons.injEq, and_true] at e0 e1 e2 e3 e4 e5 e6 e7 e8
    subst e0 e1 e2 e3 e4 e5 e6 e7 e8
    exact ⟨⟨n0, x1, x2, x3, x4, x5, n6, n7, n8⟩, c1, c2, c3, c4, c5, rfl, r1, r2, r3, r4, r5⟩
end

theorem iface_ex {P : Program} {t : TypeId} (h : (match P.underlying t with | some (.interface _) => true | _ => false) = true) : ∃ ms, P.underlying t = some (.interface ms) := by
  split at h
  · rename_i ms e; exact ⟨ms, e⟩
  · cases h
theorem struct_ex {P : Program} {t : TypeId} (h : (match P.underlying t with | some (.struct _) => true | _ => false) = true) : ∃ fs, P.underlying t = some (.struct fs) := by
  split at h
  · rename_i fs e; exact ⟨fs, e⟩
  · cases h
/-- The list that every row of this seat carries. -/
def laidL : List (String × DataW Unit) := Rows.policyBackRow.laid
theorem laid_plain : (laidL.all fun x => x.2.handleName?.isNone) = true := by kernel_rfl
theorem env_of {W : World} (h : laidMetH Tryd.prog laidL W) (hs : W.ShapedOpen Tryd.prog) : (memAll W).ok W ∧ EnvM (memAll W) := by
  rw [MakeChecks.laidMetH_plain _ _ _ laid_plain] at h
  have hp : Lib.VarReads Tryd.prog W "internal/strconv.uint64pow10" (Lib.tabData .u64 Lib.pow10Tab) := Lib.laidMet.reads h (by
    have : ("internal/strconv.uint64pow10", Rows.laid_internal_strconv_uint64pow10) ∈ laidL := by simp [laidL, Rows.policyBackRow]
    have e : (Rows.laid_internal_strconv_uint64pow10 : DataW Unit) = Lib.tabData .u64 Lib.pow10Tab := by kernel_rfl
    rw [← e]; exact this)
  have h1 : Lib.VarReads Tryd.prog W "strconv.ErrSyntax" Rows.laid_strconv_ErrSyntax := Lib.laidMet.reads h (by simp [laidL, Rows.policyBackRow])
  have h2 : Lib.VarReads Tryd.prog W "strconv.ErrRange" Rows.laid_strconv_ErrRange := Lib.laidMet.reads h (by simp [laidL, Rows.policyBackRow])
  refine ⟨⟨fun _ _ _ h => h, ?_⟩, ?_, ?_, ?_⟩
  · obtain ⟨g, t, cs, fuel, p, hg, ht, hv, hd⟩ := hp
    obtain rfl := Option.some.inj (powG.symm.trans hg)
    obtain ⟨n, hu, hc⟩ : ∃ n, Tryd.prog.underlying t = some (.array n 113) ∧ Tryd.prog.cellsOf t = n := by
      obtain rfl := Option.some.inj (ht.symm.trans (show (Tryd.prog.globals[3]?).map (·.type) = some 126 by kernel_rfl))
      exact ⟨20, by kernel_rfl, by kernel_rfl⟩
    have := Lib.cells_of_tab hu (show Tryd.prog.underlying 113 = some (.int .u64) by kernel_rfl) (by kernel_rfl) hc hd
    rw [Lib.TabIs, hv, ← this]
  · obtain ⟨x, hx⟩ := cell_of_shapedOpen_int (g := 0) (t := 3) (zero := #[.int .i64 0]) (k := .i64) hs (of_decide_eq_true (by kernel_rfl)) (by kernel_rfl) (by kernel_rfl) (by kernel_rfl) (by kernel_rfl) (by kernel_rfl)
    exact ⟨x, hx⟩
  · obtain ⟨g, t, cs, fuel, p, hg, ht, hv, hd⟩ := h1
    obtain rfl := Option.some.inj ((show Tryd.prog.globalNamed "strconv.ErrSyntax" = some 1 by kernel_rfl).symm.trans hg)
    obtain ⟨ms, hu⟩ : ∃ ms, Tryd.prog.underlying t = some (.interface ms) := by
      obtain rfl := Option.some.inj (ht.symm.trans (show (Tryd.prog.globals[1]?).map (·.type) = some 62 by kernel_rfl))
      exact iface_ex (by kernel_rfl)
    obtain ⟨_, u, v, hc, _, _⟩ := iface_of_trod hu hd
    have := World.var?_cell hg hv 0
    have hc0 : cs[0]? = some (.iface u v) := by rw [← Array.getElem?_toList, hc]; rfl
    exact ⟨_, this.trans hc0, .inr ⟨_, _, rfl⟩⟩
  · obtain ⟨g, t, cs, fuel, p, hg, ht, hv, hd⟩ := h2
    obtain rfl := Option.some.inj ((show Tryd.prog.globalNamed "strconv.ErrRange" = some 2 by kernel_rfl).symm.trans hg)
    obtain ⟨ms, hu⟩ : ∃ ms, Tryd.prog.underlying t = some (.interface ms) := by
      obtain rfl := Option.some.inj (ht.symm.trans (show (Tryd.prog.globals[2]?).map (·.type) = some 62 by kernel_rfl))
      exact iface_ex (by kernel_rfl)
    obtain ⟨_, u, v, hc, _, _⟩ := iface_of_trod hu hd
    have := World.var?_cell hg hv 0
    have hc0 : cs[0]? = some (.iface u v) := by rw [← Array.getElem?_toList, hc]; rfl
    exact ⟨_, this.trans hc0, .inr ⟨_, _, rfl⟩⟩

/-- The plain wrap, with the row's own condition and the world's shape. -/
theorem returnsInHanded_laid {H : Type} {enc : TypeId × Value → H} {a : Assume} {C : Checked} {os : Os} {f : FuncId} {fn : Func} {s : ChangeSpec} {conds : List PathCond} {apart fresh handsOn again : Bool} {X : World → Array Value → Prop}
    (hX : ∀ (w w' : World) (args : Array Value), w.heap = w'.heap → X w args → X w' args)
    (own : ownKnob C.prog.godebug = none) (started : os.Started) (noInit : C.prog.inits.idxOf? f = none) (hfn : C.prog.funcs[f]? = some fn)
    (witness : ∃ (w : World) (tape : Tape) (i : Input), w.os = os ∧ (w.forCall tape i).Shaped C.prog ∧ i.vars = [] ∧ Input.okWide C.prog (w.forCall tape i) .any w.heap.size f i ∧
      ((s.pre enc C.prog fn conds apart (w.forCall tape i).memory i.args ∧ X (w.forCall tape i).memory i.args) ∧ sizedMet enc C.prog fn (OpenSpec.ofChange s) apart (w.forCall tape i).memory i.args) ∧ a.holds C.prog (lone (Frame.enter C.prog f i.args .normal) [] (w.forCall tape i)))
    (contract : ∀ (W : World) (base : Nat) (args : Array Value) (ds gs : List (DataW H)) (before : List MemPlace),
      (∀ (j : Nat) t v, fn.params[j]? = some t → args[j]? = some v → Value.okWide C.prog W .any base t v) →
      DataW.Whole enc C.prog fn.params.toList s.vars apart W args.toList ds gs before →
      conds.all (PathCond.test C.prog ⟨fn.params.toList, ds, s.plain.varTypes C.prog, gs⟩) = true →
      (DataW.weightsEach C.prog (fn.params.toList ++ s.plain.varTypes C.prog) (ds ++ gs)).all (· ≤ reachBytes) = true →
      X W args → W.ShapedOpen C.prog →
      Calls C.prog f args W fun e W' => ∃ v, e = .returned v ∧ s.post enc C.prog fn apart fresh handsOn again W args v W') :
    ReturnsInHanded a C os f .any (fun w args => (s.pre enc C.prog fn conds apart w args ∧ X w args) ∧ sizedMet enc C.prog fn (OpenSpec.ofChange s) apart w args) (s.post enc C.prog fn apart fresh handsOn again) := by
  refine returnsInHanded_of_calls own started noInit witness ?_
  intro w tape i _ hsh _ hok hpre hholds
  obtain ⟨_, _, _, fn', hfn', _, _, _, _, hval⟩ := hok
  have e : fn' = fn := Option.some.inj (hfn'.symm.trans hfn)
  subst e
  obtain ⟨⟨⟨ds, gs, before, hw, hc⟩, hx⟩, hz⟩ := hpre
  have hw' := DataW.Whole.of_heap (w' := w.forCall tape i) (by rfl) hw
  refine (contract (w.forCall tape i) w.heap.size i.args ds gs before hval hw' hc (hz.weights hw) (hX _ _ _ (by rfl) hx) hsh).mono fun e W' ⟨v, he, hp⟩ => ?_
  subst he
  exact ChangeSpec.post_blind hp
end Go.Proofs.YtlfimcpceiemnaaDoor
