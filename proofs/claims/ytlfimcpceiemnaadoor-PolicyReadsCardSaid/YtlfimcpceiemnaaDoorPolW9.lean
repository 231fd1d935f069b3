/- policy.Right. -/
import Derived.Test.YtlfimcpceiemnaaDoorPolW8
import Derived.Laws.EntriesVeiled
set_option linter.unusedVariables false
namespace Go.Proofs.YtlfimcpceiemnaaDoor
open Go Go.RowKit

theorem enter38 (args : Array Value) (w : World) : (callFunc 38 args).run Tryd.prog w = .ok (.enter 38 args) w := by kernel_rfl
theorem enter39 (args : Array Value) (w : World) : (callFunc 39 args).run Tryd.prog w = .ok (.enter 39 args) w := by kernel_rfl
theorem enter41 (args : Array Value) (w : World) : (callFunc 41 args).run Tryd.prog w = .ok (.enter 41 args) w := by kernel_rfl
theorem enter44 (args : Array Value) (w : World) : (callFunc 44 args).run Tryd.prog w = .ok (.enter 44 args) w := by kernel_rfl
theorem all_and {α : Type} (f g : α → Bool) (xs : List α) : (xs.all fun x => f x && g x) = (xs.all f && xs.all g) := by
  rw [Bool.eq_iff_iff, Bool.and_eq_true, List.all_eq_true, List.all_eq_true, List.all_eq_true]
  constructor
  · intro h
    exact ⟨fun x hx => (Bool.and_eq_true _ _ ▸ h x hx).1, fun x hx => (Bool.and_eq_true _ _ ▸ h x hx).2⟩
  · intro h x hx
    rw [Bool.and_eq_true]
    exact ⟨h.1 x hx, h.2 x hx⟩
theorem all_ne (xs : List Str) (t : Str) : (xs.all fun s => s != t) = !hasStr xs t := by
  rw [Bool.eq_iff_iff, List.all_eq_true, Bool.not_eq_true', hasStr, ← Bool.not_eq_true, List.contains_iff_mem]
  constructor
  · intro h hm
    have := h t hm
    simp at this
  · intro h x hx
    simp only [bne_iff_ne, ne_eq]
    intro e
    subst e
    exact h hx
theorem rightF_lists (p : Pol) : rightF p = (numsF p && (listF elemOk p.elems && listF (attrF p.elems) p.attrs && listF schemeOk p.schemes && listF wordF p.classes && listF wordF p.props && liF p)) := by
  have e1 : (p.elems.all elemOk) = (p.elems.all wordF && p.elems.all fun s => !neverF s) := all_and _ _ _
  have e2 : (p.schemes.all schemeOk) = (p.schemes.all wordF && (!hasStr p.schemes cJs) && (!hasStr p.schemes cData) && (!hasStr p.schemes cVb)) := by
    rw [← all_ne, ← all_ne, ← all_ne, ← all_and, ← all_and, ← all_and]; rfl
  rw [rightF, listsF, schF]
  simp only [listF, wordsF, e1, e2]
  generalize numsF p = a1
  generalize p.elems.all wordF = a2
  generalize risesF p.elems = a3
  generalize risesF p.attrs = a4
  generalize p.schemes.all wordF = a5
  generalize risesF p.schemes = a6
  generalize p.classes.all wordF = a7
  generalize risesF p.classes = a8
  generalize p.props.all wordF = a9
  generalize risesF p.props = b1
  generalize (p.elems.all fun s => !neverF s) = b2
  generalize (p.attrs.all fun s => attrF p.elems s) = b3
  have hb3 : True := trivial
  generalize liF p = b4
  generalize (!hasStr p.schemes cJs) = b5
  generalize (!hasStr p.schemes cData) = b6
  generalize (!hasStr p.schemes cVb) = b7
  cases a1 <;> cases a2 <;> cases a3 <;> cases a4 <;> cases a5 <;> cases a6 <;> simp <;> (cases a7 <;> cases a8 <;> cases a9 <;> cases b1 <;> cases b2 <;> simp) <;> (cases b3 <;> cases b4 <;> cases b5 <;> cases b6 <;> cases b7 <;> simp)
set_option maxHeartbeats 3200000 in
set_option maxRecDepth 100000 in
theorem pright_calls {m : Mem} (hE : EnvM m) (w : World) (hw : m.ok w) {p : Pol} (hz : p.sz) {v1 v2 v3 v4 v5 : Value} (h : RdPol m p v1 v2 v3 v4 v5) :
    Calls Tryd.prog 16 #[.agg (polCells p v1 v2 v3 v4 v5)] w fun e w' => e = .returned (.bool (rightF p)) ∧ Ch (fun _ => False) w w' := by
  obtain ⟨r1, r2, r3, r4, r5⟩ := h
  obtain ⟨z1, z2, z3, z4, z5⟩ := hz
  have hbx := heap_alloc_new w (.cells (polCells p v1 v2 v3 v4 v5) 25)
  have hch := (Ch.refl (fun _ => False) w).alloc (.cells (polCells p v1 v2 v3 v4 v5) 25)
  have hok := hw.ch hch (fun _ h => h.elim)
  unfold polCells at *
  go_enter Tryd.func16, Tryd.ntmps16
  go_upto_region 1 with fail
  generalize hX : w.alloc _ = X at *
  have hsz : X.heap.size = w.heap.size + 1 := by rw [← hX]; simp
  clear hX
  generalize hwn : w.heap.size = g at *
  have x0 : X.cell? ⟨g, 0, none⟩ = some (.int .i64 p.epoch) := by rw [cell_of_row X _ 0 _ _ _ hbx]; rfl
  have x1 : X.cell? ⟨g, 1, none⟩ = some v1 := by rw [cell_of_row X _ 1 _ _ _ hbx]; rfl
  have x2 : X.cell? ⟨g, 2, none⟩ = some v2 := by rw [cell_of_row X _ 2 _ _ _ hbx]; rfl
  have x3 : X.cell? ⟨g, 3, none⟩ = some v3 := by rw [cell_of_row X _ 3 _ _ _ hbx]; rfl
  have x4 : X.cell? ⟨g, 4, none⟩ = some v4 := by rw [cell_of_row X _ 4 _ _ _ hbx]; rfl
  have x5 : X.cell? ⟨g, 5, none⟩ = some v5 := by rw [cell_of_row X _ 5 _ _ _ hbx]; rfl
  have x6 : X.cell? ⟨g, 6, none⟩ = some (.int .i64 p.depth) := by rw [cell_of_row X _ 6 _ _ _ hbx]; rfl
  have x7 : X.cell? ⟨g, 7, none⟩ = some (.int .i64 p.nodes) := by rw [cell_of_row X _ 7 _ _ _ hbx]; rfl
  have x8 : X.cell? ⟨g, 8, none⟩ = some (.int .i64 p.bytes) := by rw [cell_of_row X _ 8 _ _ _ hbx]; rfl
  have Hch := Lib.hid hch
  have hgX : g < X.heap.size := by omega
  clear hbx hch hsz
  clear hwn
  go_upto_region 3 with fail
  generalize hd1 : min (max p.depth 1) 64 = d1 at *
  generalize hd2 : min (max p.nodes 1) 2000 = d2 at *
  generalize hd3 : min (max p.bytes 1) 16384 = d3 at *
  have HD1 := Lib.hid hd1
  have HD2 := Lib.hid hd2
  have HD3 := Lib.hid hd3
  clear hd1 hd2 hd3
  have hchY := ((Hch.out.alloc (.cells #[.int .i64 p.depth, .int .i64 p.nodes, .int .i64 p.bytes] 70)).alloc (.cells #[.int .i64 d1, .int .i64 d2, .int .i64 d3] 70))
  go_cut [41] (fun r wx => r = .bool (!numsF p) ∧ ∃ n, wx = ((X.alloc (.cells #[.int .i64 p.depth, .int .i64 p.nodes, .int .i64 p.bytes] 70)).alloc (.cells #[.int .i64 d1, .int .i64 d2, .int .i64 d3] 70)).drewN n)
  case first =>
    -- <<
    clear r1 r2 r3 r4 r5 z1 z2 z3 z4 z5
    have fin : ∀ b : Bool, (b = true ↔ (p.epoch < 1 ∨ 1000000 < p.epoch ∨ p.depth ≠ d1 ∨ p.nodes ≠ d2 ∨ p.bytes ≠ d3)) → b = !numsF p := fun b hb => by
      have n1 := HD1.out
      have n2 := HD2.out
      have n3 := HD3.out
      rw [Bool.eq_iff_iff, Bool.not_eq_true', ← Bool.not_eq_true, numsF_iff, hb]
      omega
    have Fin := Lib.hid fin
    clear fin HD1 HD2 HD3
    by_cases q1 : d1 = p.depth
    · subst q1
      by_cases q2 : d2 = p.nodes
      · subst q2
        by_cases q3 : d3 = p.bytes
        · subst q3
          go_wp2
          all_goals go_meet
          all_goals
            refine ⟨congrArg Value.bool (Fin.out _ ?_), 0, rfl⟩
            first | (simp; done) | (simp; omega)
        · have q3' : ¬ p.bytes = d3 := fun e => q3 e.symm
          clear q3
          go_wp2
          all_goals go_meet
          all_goals
            refine ⟨congrArg Value.bool (Fin.out _ ?_), 0, rfl⟩
            simp [q3']
      · have q3' : ¬ p.nodes = d2 := fun e => q2 e.symm
        clear q2
        go_wp2
        all_goals go_meet
        all_goals
          refine ⟨congrArg Value.bool (Fin.out _ ?_), 0, rfl⟩
          simp [q3']
    · have q3' : ¬ p.depth = d1 := fun e => q1 e.symm
      clear q1
      go_wp2
      all_goals go_meet
      all_goals
        refine ⟨congrArg Value.bool (Fin.out _ ?_), 0, rfl⟩
        simp [q3']
    -- >>
  case rest =>
    obtain ⟨rfl, n0, hY⟩ := hcut
    rename World => Y
    have hchY := Lib.hid (show Ch (fun _ => False) w Y by rw [hY]; exact (hchY.drewN n0))
    have hXY : Ch (fun _ => False) X Y := by rw [hY]; exact (((Ch.refl _ X).alloc _).alloc _).drewN n0
    have y1 := hXY.cell x1 (fun h => h)
    have y2 := hXY.cell x2 (fun h => h)
    have y3 := hXY.cell x3 (fun h => h)
    have y4 := hXY.cell x4 (fun h => h)
    have y5 := hXY.cell x5 (fun h => h)
    have okY := hok.ch hXY (fun _ h => h.elim)
    have hgY : g < Y.heap.size := Nat.lt_of_lt_of_le hgX hXY.size
    clear x0 x1 x2 x3 x4 x5 x6 x7 x8 hXY hok HD1 HD2 HD3 hgX
    clear hY
    have HF := Lib.hid (rightF_lists p)
    cases hN : numsF p with
    | false =>
      go_wp2
      go_ret
      exact ⟨Ret1 (by rw [HF.out, hN]; rfl), hchY.out⟩
    | true =>
      go_upto_region 6 with fail
      have HE := Lib.hid (show rightF p = (listF elemOk p.elems && listF (attrF p.elems) p.attrs && listF schemeOk p.schemes && listF wordF p.classes && listF wordF p.props && (!hasStr p.elems [108, 105] || (hasStr p.elems [117, 108] && hasStr p.elems [111, 108]))) by rw [HF.out, hN]; rfl)
      clear hN HF
      have hchZ := hchY.out.alloc (.cells #[.func (.func 35) #[] #[.pointer (some ⟨g, 0, none⟩)]] 30)
      have hbz := heap_alloc_new Y (.cells #[.func (.func 35) #[] #[.pointer (some ⟨g, 0, none⟩)]] 30)
      have hYZ := (Ch.refl (fun _ => False) Y).alloc (.cells #[.func (.func 35) #[] #[.pointer (some ⟨g, 0, none⟩)]] 30)
      generalize hZ : Y.alloc _ = Z at *
      clear hZ
      generalize Y.heap.size = q at *
      have z1' := hYZ.cell y1 (fun h => h)
      have z2' := hYZ.cell y2 (fun h => h)
      have z3' := hYZ.cell y3 (fun h => h)
      have z4' := hYZ.cell y4 (fun h => h)
      have z5' := hYZ.cell y5 (fun h => h)
      have okZ := okY.ch hYZ (fun _ h => h.elim)
      have zq : Z.cell? ⟨q, 0, none⟩ = some (.func (.func 35) #[] #[.pointer (some ⟨g, 0, none⟩)]) := by rw [cell_of_row Z _ 0 _ _ _ hbz]; rfl
      have HchZ := Lib.hid hchZ
      clear y1 y2 y3 y4 y5 okY hbz hchZ hYZ hchY Hch
      have hA := memAll_ok okZ
      have hl : m.le (memAll Z) := okZ.cells
      have L1 := Lib.hid (fun (wx : World) (hx : (memAll Z).ok wx) => list_calls wx hx (r1.le hl) z1.1 38 #[] elemOk enter38 (fun w' x _ hm => right2_calls x (Nat.le_trans (z1.2 x hm) (by omega)) w'))
      have L2 := Lib.hid (fun (wx : World) (hx : (memAll Z).ok wx) => list_calls wx hx (r2.le hl) z2.1 41 #[.pointer (some ⟨q, 0, none⟩)] (attrF p.elems) enter41 (fun w' x hw' hm => right3_calls (hE.le hl) w' hw' (hw' _ _ _ z1') (hw' _ _ _ zq) (r1.le hl) z1.1 x (z2.2 x hm)))
      have L3 := Lib.hid (fun (wx : World) (hx : (memAll Z).ok wx) => list_calls wx hx (r3.le hl) z3.1 44 #[] schemeOk enter44 (fun w' x _ hm => right4_calls x (Nat.le_trans (z3.2 x hm) (by omega)) w'))
      have L4 := Lib.hid (fun (wx : World) (hx : (memAll Z).ok wx) => list_calls wx hx (r4.le hl) z4.1 39 #[] wordF enter39 (fun w' x _ hm => (word_calls x (Nat.le_trans (z4.2 x hm) (by omega)) w').mono (fun e w'' h => ⟨h.1, 0, h.2.symm⟩)))
      have L5 := Lib.hid (fun (wx : World) (hx : (memAll Z).ok wx) => list_calls wx hx (r5.le hl) z5.1 39 #[] wordF enter39 (fun w' x _ hm => (word_calls x (Nat.le_trans (z5.2 x hm) (by omega)) w').mono (fun e w'' h => ⟨h.1, 0, h.2.symm⟩)))
      have L6 := Lib.hid (fun (wx : World) (hx : (memAll Z).ok wx) (s : Str) => has1_calls wx hx (hx _ _ _ z1') (r1.le hl) z1.1 s)
      have HA := Lib.hid hA
      clear hA hl r1 r2 r3 r4 r5 z1 z2 z3 z4 z5 okZ hw hE
      go_wp2_with fail
      refine (L1.out _ ?_).mono ?_
      exact HA.out.heap rfl
      rintro e w' ⟨rfl, n1, rfl⟩
      go_wp2_with fail
      refine (L2.out _ ?_).mono ?_
      exact HA.out.heap rfl
      rintro e w' ⟨rfl, n2, rfl⟩
      go_wp2_with fail
      refine (L3.out _ ?_).mono ?_
      exact HA.out.heap rfl
      rintro e w' ⟨rfl, n3, rfl⟩
      cases b1 : listF elemOk p.elems with
      | false =>
        go_wp2_with fail
        go_ret
        exact ⟨Ret1 (by rw [HE.out, b1]; first | rfl | simp), HchZ.out.drewN _⟩
      | true =>
        cases b2 : listF (attrF p.elems) p.attrs with
        | false =>
          go_wp2_with fail
          go_ret
          exact ⟨Ret1 (by rw [HE.out, b1, b2]; first | rfl | simp), HchZ.out.drewN _⟩
        | true =>
          cases b3 : listF schemeOk p.schemes with
          | false =>
            go_wp2_with fail
            go_ret
            exact ⟨Ret1 (by rw [HE.out, b1, b2, b3]; first | rfl | simp), HchZ.out.drewN _⟩
          | true =>
            go_wp2_with fail
            refine (L4.out _ ?_).mono ?_
            exact HA.out.heap rfl
            rintro e w' ⟨rfl, n4, rfl⟩
            cases b4 : listF wordF p.classes with
            | false =>
              go_wp2_with fail
              go_ret
              exact ⟨Ret1 (by rw [HE.out, b1, b2, b3, b4]; first | rfl | simp), HchZ.out.drewN _⟩
            | true =>
              go_wp2_with fail
              refine (L5.out _ ?_).mono ?_
              exact HA.out.heap rfl
              rintro e w' ⟨rfl, n5, rfl⟩
              cases b5 : listF wordF p.props with
              | false =>
                go_wp2_with fail
                go_ret
                exact ⟨Ret1 (by rw [HE.out, b1, b2, b3, b4, b5]; first | rfl | simp), HchZ.out.drewN _⟩
              | true =>
                go_wp2_with fail
                refine (L6.out _ ?_ [108, 105]).mono ?_
                exact HA.out.heap rfl
                rintro e w' ⟨rfl, rfl⟩
                cases b6 : hasStr p.elems [108, 105] with
                | false =>
                  go_wp2_with fail
                  go_ret
                  exact ⟨Ret1 (by rw [HE.out, b1, b2, b3, b4, b5, b6]; first | rfl | simp), HchZ.out.drewN _⟩
                | true =>
                  go_wp2_with fail
                  refine (L6.out _ ?_ [117, 108]).mono ?_
                  exact HA.out.heap rfl
                  rintro e w' ⟨rfl, rfl⟩
                  cases b7 : hasStr p.elems [117, 108] with
                  | false =>
                    go_wp2_with fail
                    go_ret
                    exact ⟨Ret1 (by rw [HE.out, b1, b2, b3, b4, b5, b6, b7]; first | rfl | simp), HchZ.out.drewN _⟩
                  | true =>
                    go_wp2_with fail
                    refine (L6.out _ ?_ [111, 108]).mono ?_
                    exact HA.out.heap rfl
                    rintro e w' ⟨rfl, rfl⟩
                    go_wp2_with fail
                    go_ret
                    exact ⟨Ret1 (by rw [HE.out, b1, b2, b3, b4, b5, b6, b7]; first | rfl | simp), HchZ.out.drewN _⟩
end Go.Proofs.YtlfimcpceiemnaaDoor
