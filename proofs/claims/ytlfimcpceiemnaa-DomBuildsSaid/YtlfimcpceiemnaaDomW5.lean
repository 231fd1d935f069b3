/- dom's builder, walked: shut. -/
import Derived.Test.YtlfimcpceiemnaaDomW4
set_option linter.unusedVariables false
namespace Go.Proofs.Ytlfimcpceiemnaa
open Go Go.RowKit

/-- The innermost element is taken off the row: its kids' row lasts from now on. -/
theorem pop_end {m : Mem} {w w' : World} {base g b cap : Nat} {L : List Node} {p top : Node} {many : Int} {over : Bool} {ks' : List KRow} {k : KRow} {cs' : List Value} {va : Value}
    (h : IsB m w base g (L ++ [p] ++ [top]) many over (.slice (some ⟨b, 0, none⟩) (L.length + 2) cap) (cs' ++ [.string ⟨top.name.toArray⟩, va, .string ⟨#[]⟩, k.v, .string ⟨top.name.toArray⟩]) (ks' ++ [k]))
    (hE : ElCells m (L ++ [p]) ks' cs') (hA : RdAttrs m va top.attrs) (hkn : k.n = top.kids.length) (hkc : NodeCells m top.kids k.cs)
    (hc : Ch (fun k => k = g) w w') (ho : w'.heap[g]? = some (.cells #[.slice (some ⟨b, 0, none⟩) (L.length + 1) cap, .int .i64 many, .bool over] 41 (0, 0))) :
    ∃ m', m.le m' ∧ (∀ x, m.free x → x ∉ fpB g (.slice (some ⟨b, 0, none⟩) (L.length + 2) cap) (ks' ++ [k]) → m'.free x) ∧ IsB m' w' base g (L ++ [p]) many over (.slice (some ⟨b, 0, none⟩) (L.length + 1) cap) cs' ks' ∧ NodeAt m' top va k.v ∧
      (∀ x ∈ fpB g (.slice (some ⟨b, 0, none⟩) (L.length + 1) cap) ks', x ∈ fpB g (.slice (some ⟨b, 0, none⟩) (L.length + 2) cap) (ks' ++ [k])) := by
  have hfp : fpB g (.slice (some ⟨b, 0, none⟩) (L.length + 2) cap) (ks' ++ [k]) = fpB g (.slice (some ⟨b, 0, none⟩) (L.length + 1) cap) ks' ++ k.v.ownBlock.toList := by
    have ob : ∀ n, (Value.slice (some ⟨b, 0, none⟩) n cap).ownBlock = some b := fun _ => rfl
    simp only [fpB, ob, Option.toList_some, List.filterMap_append]
    cases hk : k.v.ownBlock <;> simp [List.filterMap_cons, hk]
  have hnd := h.nd
  rw [hfp] at hnd
  have hnd' := List.nodup_append.1 hnd
  have hgf : ∀ x, x = g → m.free x := by rintro x rfl; exact h.fr _ (by simp [fpB])
  have hok := h.hm.ch hc hgf
  have hin : ∀ r ∈ ks' ++ [k], ∀ x, r.v.ownBlock = some x → x ≠ g := by
    intro r hr x hx e
    have := h.nd
    simp only [fpB, List.nodup_cons] at this
    exact this.1 (List.mem_append.2 (.inr (List.mem_filterMap.2 ⟨r, hr, e ▸ hx⟩)))
  have hkrow := hc.own (h.rows k (by simp)) (fun x hx e => hin k (by simp) x hx e)
  obtain ⟨m', hle, hok', hsl, hfree⟩ := freeze hok hkrow (fun x hx => h.fr x (by rw [hfp]; simp [hx]))
  have hlen := hE.length
  refine ⟨m', hle, fun x hx hn => hfree x hx (fun e => hn (by rw [hfp]; simp [e])), ⟨hok', ho, ?_, hE.le hle, fun r hr => hc.own (h.rows r (by simp [hr])) (fun x hx e => hin r (by simp [hr]) x hx e), hnd'.1, fun x hx => hfree x (h.fr x (by rw [hfp]; simp [hx])) (fun e => hnd'.2.2 x hx x (by simp [e]) rfl), h.bs⟩, ⟨hA.le hle, k.cs, hkn ▸ hsl, hkc.le hle⟩, fun x hx => by rw [hfp]; simp [hx]⟩
  have hr := hc.own h.row (fun x hx e => by
    have := h.nd
    subst e
    simp only [fpB, List.nodup_cons, hx] at this
    exact this.1 (by simp))
  simp only [List.length_append, List.length_singleton] at hr ⊢
  exact ownsRow_pop (n := L.length + 1) (by rw [hlen.1]; simp) hr

set_option maxHeartbeats 800000 in
theorem shut_calls {m : Mem} {w : World} {base g : Nat} {s : BS} {top p : Node} {rest : List Node} {vo : Value} {oc : List Value} {ks : List KRow} (hs : s.st = top :: p :: rest) (h : IsB m w base g s.st.reverse s.many s.over vo oc ks)
    (hl : loadS s.st ≤ 1000000) :
    Calls Try.prog 14 #[.pointer (some ⟨g, 0, none⟩)] w (Done (BPost m base g w vo ks (shutS s.st).reverse s.many s.over)) := by
  obtain ⟨st, many, over⟩ := s
  simp only at hs
  subst hs
  simp only [List.reverse_cons, shutS] at *
  have hp : p.kids.length ≤ 1000000 := by simp [loadS] at hl; omega
  have hLl : rest.length ≤ 1000000 := by have := length_le_load rest; simp [loadS] at hl; omega
  have hrl : rest.length = rest.reverse.length := by simp
  generalize rest.reverse = L at *
  clear hl
  rw [hrl] at hLl
  clear hrl
  go_enter Try.func14, Try.ntmps14
  go_wp2_with fail
  refine (last_calls h (by simp)).mono ?_
  rintro e w' ⟨hh, q, hob2, rfl, rfl⟩
  have hch := (Ch.refl (fun _ => False) w).drewN q
  replace h := h.ch hch (fun _ hk => hk.elim)
  have hsz : w.heap.size = (w.drewN q).heap.size := rfl
  generalize w.drewN q = W at *
  obtain ⟨ks', cs', k, va, rfl, rfl, hE, hA, hkn, hkc, htx⟩ := h.els.snoc
  obtain ⟨nm, at', tx, kd⟩ := top
  simp only [Node.text] at htx
  subst htx
  have hlen := hE.length
  obtain ⟨b, cap, hv, hcap, hob, hbb, hcells, hfro⟩ := own_cells h.row (by simp)
  simp only [List.length_append, List.length_singleton] at hv hcap hlen
  subst hv
  obtain ⟨_, Aa, ca, rfl, _⟩ := id hA
  obtain ⟨Ak, ck, hkv⟩ : ∃ A c, k.v = .slice A k.n c := by
    rcases (h.rows k (by simp)).2 with ⟨h0, h1⟩ | ⟨g, cap, cur, h0, _⟩
    · exact ⟨_, _, by rw [h0, h1]⟩
    · exact ⟨_, _, h0⟩
  have e1 : ∀ i, i < 5 → W.cell? ⟨b, (L.length + 1) * 5 + i, none⟩ = [Value.string ⟨nm.toArray⟩, .slice Aa at'.length ca, .string ⟨#[]⟩, k.v, .string ⟨nm.toArray⟩][i]? := by
    intro i hi
    have : (cs' ++ [Value.string ⟨(Node.mk nm at' [] kd).name.toArray⟩, .slice Aa (Node.mk nm at' [] kd).attrs.length ca, .string ⟨#[]⟩, k.v, .string ⟨(Node.mk nm at' [] kd).name.toArray⟩])[(L.length + 1) * 5 + i]? = [Value.string ⟨nm.toArray⟩, .slice Aa at'.length ca, .string ⟨#[]⟩, k.v, .string ⟨nm.toArray⟩][i]? := by
      rw [List.getElem?_append_right (by omega)]
      rw [show (L.length + 1) * 5 + i - cs'.length = i from by omega]; rfl
    have hsome : ∃ u, [Value.string ⟨nm.toArray⟩, .slice Aa at'.length ca, .string ⟨#[]⟩, k.v, .string ⟨nm.toArray⟩][i]? = some u := ⟨_, List.getElem?_eq_getElem (by simpa using hi)⟩
    obtain ⟨u, hu⟩ := hsome
    rw [hu] at this ⊢
    exact hcells _ _ this
  have z0 := e1 0 (by omega)
  have z1 := e1 1 (by omega)
  have z2 := e1 2 (by omega)
  have z3 := e1 3 (by omega)
  simp only [List.getElem?_cons_zero, List.getElem?_cons_succ, Nat.add_zero] at z0 z1 z2 z3
  rw [hkv] at z3
  have x0 : W.cell? ⟨g, 0, none⟩ = some (.slice (some ⟨b, 0, none⟩) (L.length + 2) cap) := by rw [cell_of_row W g 0 _ _ _ h.obj]; rfl
  have f0 : W.frozen? ⟨g, 0, none⟩ = false := by simp [World.frozen?, h.obj]
  have hg : g < W.heap.size := (Array.getElem?_eq_some_iff.1 h.obj).1
  have hbw : b < W.heap.size := (h.lt b (by simp [fpB, Value.ownBlock])).2
  have hgb : ¬ g = b := by
    have := h.nd
    simp only [fpB, Value.ownBlock, List.nodup_cons] at this
    exact fun e => this.1 (by simp [e])
  have hL0 : (0 : Int) ≤ (L.length : Int) + 1 := by omega
  have hL1 : (L.length : Int) + 1 ≤ (cap : Int) := by omega
  have hL2 : L.length + 1 ≤ cap := by omega
  have Hkn := Lib.hid hkn
  have Hlen := Lib.hid hlen
  have Hkv := Lib.hid hkv
  clear e1 hcells hfro hlen hkn hob hkv
  obtain rfl : b = hh := by simpa [Value.ownBlock] using hob2
  clear hob2
  simp only [List.length_append, List.length_singleton, Nat.add_sub_cancel]
  go_wp2_with fail
  go_region
  go_wp2_with fail
  have c1 : Ch (fun k => k = g) W ((W.setCell ⟨g, 0, none⟩ (.slice (some ⟨b, 0, none⟩) (L.length + 1) cap)).alloc (.cells #[.string ⟨nm.toArray⟩, .slice Aa at'.length ca, .string ⟨#[]⟩, .slice Ak k.n ck] 34)).drew :=
    (((Ch.refl (fun k => k = g) W).setCell (p := ⟨g, 0, none⟩) (.inl rfl) _).alloc _).drew
  have o1 : ((W.setCell ⟨g, 0, none⟩ (.slice (some ⟨b, 0, none⟩) (L.length + 1) cap)).alloc (.cells #[.string ⟨nm.toArray⟩, .slice Aa at'.length ca, .string ⟨#[]⟩, .slice Ak k.n ck] 34)).drew.heap[g]? =
      some (.cells #[.slice (some ⟨b, 0, none⟩) (L.length + 1) cap, .int .i64 many, .bool over] 41 (0, 0)) :=
    (Below.heap_alloc _ _ g (by have := ((Ch.refl (fun k => k = g) W).setCell (p := ⟨g, 0, none⟩) (.inl rfl) (.slice (some ⟨b, 0, none⟩) (L.length + 1) cap)).size; omega)).trans (heap_setCell_at h.obj _)
  obtain ⟨m1, l1, f1, i1, nd1, n1⟩ := pop_end h hE hA Hkn.out hkc c1 o1
  generalize ((W.setCell ⟨g, 0, none⟩ (.slice (some ⟨b, 0, none⟩) (L.length + 1) cap)).alloc (.cells #[.string ⟨nm.toArray⟩, .slice Aa at'.length ca, .string ⟨#[]⟩, .slice Ak k.n ck] 34)).drew = W1 at *
  rw [Hkv.out] at nd1
  refine (put_calls i1 nd1 hp).mono ?_
  rintro e w2 ⟨rfl, hb⟩
  have fin := BPost.ahead hch (BPost.step l1 (fun k hk hn _ => f1 k hk hn) (c1.mono (fun k hk => by subst hk; simp [fpB])) (fun k hk => .inl (n1 k hk)) hb)
  clear hb c1 o1 i1 nd1 n1 f1 l1 h hE hA hkc hch
  go_wp2
  go_end0
  exact Done.mk fin

end Go.Proofs.Ytlfimcpceiemnaa
