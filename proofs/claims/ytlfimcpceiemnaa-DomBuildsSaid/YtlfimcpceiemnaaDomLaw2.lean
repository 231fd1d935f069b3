/- dom.Text. -/
import Derived.Test.YtlfimcpceiemnaaDomLaw1
import Derived.Deep.RegionWith
set_option linter.unusedVariables false
namespace Go.Proofs.Ytlfimcpceiemnaa
open Go Go.RowKit

mutual
def Node.full : Node → Str
  | .mk _ _ t k => t ++ fullL k
def fullL : List Node → Str
  | [] => []
  | x :: xs => x.full ++ fullL xs
end
theorem fullL_append : ∀ a b : List Node, fullL (a ++ b) = fullL a ++ fullL b
  | [], b => by simp [fullL]
  | x :: a, b => by simp [fullL, fullL_append a b]
theorem full_eq (x : Node) : x.full = x.text ++ fullL x.kids := by cases x; simp [Node.full, Node.text, Node.kids]
theorem fullL_take {xs : List Node} {k : Nat} {x : Node} (h : xs[k]? = some x) : fullL (xs.take (k + 1)) = fullL (xs.take k) ++ (x.text ++ fullL x.kids) := by
  rw [List.take_add_one, h, fullL_append, ← full_eq]; simp [fullL]
theorem fullL_le (xs : List Node) (k : Nat) : (fullL (xs.take k)).length ≤ (fullL xs).length := by
  have h := fullL_append (xs.take k) (xs.drop k)
  rw [List.take_append_drop] at h
  rw [h, List.length_append]; omega
def TextSpec (n : Nat) : Prop := ∀ (m : Mem) (w : World) (v : Value) (xs : List Node), m.ok w → RdNodes m v xs → SizeOf.sizeOf xs ≤ n → (fullL xs).length ≤ 1000000 →
    Calls Try.prog 10 #[v] w fun e w' => e = .returned (.string ⟨(fullL xs).toArray⟩) ∧ Ch (fun _ => False) w w'
set_option maxHeartbeats 3200000 in
theorem domtext_calls (n : Nat) : TextSpec n := by
  induction n with
  | zero =>
    intro m w v xs hw ha hn hs
    cases xs with
    | nil => simp at hn
    | cons x xs => simp at hn
  | succ n IH =>
    intro m w v xs hw ha hn hs
    obtain ⟨A, c, hva⟩ : ∃ A c, v = .slice A xs.length c := by obtain ⟨_, ⟨_, A, c, h, _⟩, _⟩ := ha; exact ⟨A, c, h⟩
    subst hva
    go_enter Try.func10, Try.ntmps10
    go_wp2
    go_loopw [3, 8] (fun s i wr => ∃ k : Nat, k ≤ xs.length ∧ i = .int .i64 k ∧ s = .string ⟨(fullL (xs.take k)).toArray⟩ ∧ m.ok wr ∧ Hid (Ch (fun _ => False) w wr)) (fun _ i _ => xs.length - (intOf i).toNat)
    case atStart => exact ⟨0, Nat.zero_le _, rfl, rfl, hw, Ch.refl _ _⟩
    case round =>
      rename World => wr
      obtain ⟨k, hk, rfl, rfl, hok, Hn⟩ := hrel
      obtain ⟨_, hmax, hA⟩ := node_cells hok ha
      by_cases hlt : k < xs.length
      · rcases hA with rfl | ⟨b, o, rfl, hA⟩
        · simp at hlt
        · obtain ⟨x, Aa, ca, Ak, ck, e1, a0, a1, a2, a3, ra, rk⟩ := hA k hlt
          have hsz := size_kids (List.mem_of_getElem? e1)
          have htk := fullL_take e1
          have hle := fullL_le xs (k + 1)
          have hle2 : (fullL (xs.take k)).length + (x.text.length + (fullL x.kids).length) ≤ 1000000 := by
            rw [htk] at hle; simp at hle; omega
          have Htk := Lib.hid htk
          have i1 : (k : Int) < (xs.length : Int) := by omega
          have i2 : (0 : Int) ≤ (k : Int) := by omega
          have HT := Lib.hid (fun w1 (h1 : m.ok w1) => IH m w1 _ x.kids h1 rk (by omega) (by omega))
          clear e1 hA ha hw hsz ra rk htk hle hs
          generalize x.name = xn at *
          generalize x.text = xt at *
          generalize x.attrs.length = al at *
          generalize x.kids.length = kl at *
          generalize fullL x.kids = ft at *
          generalize fullL (xs.take k) = acc at *
          go_upto_region 5 with fail
          have hbx1 := heap_alloc_new wr (.cells #[.string ⟨xn.toArray⟩, .slice Aa al ca, .string ⟨xt.toArray⟩, .slice Ak kl ck] 34)
          have hch := (Ch.refl (fun _ => False) wr).alloc (.cells #[.string ⟨xn.toArray⟩, .slice Aa al ca, .string ⟨xt.toArray⟩, .slice Ak kl ck] 34)
          have hok2 := hok.ch hch (fun _ hk => hk.elim)
          have Hc2 := Lib.hid (Hn.out.alloc (.cells #[.string ⟨xn.toArray⟩, .slice Aa al ca, .string ⟨xt.toArray⟩, .slice Ak kl ck] 34))
          generalize hX : wr.alloc (.cells #[.string ⟨xn.toArray⟩, .slice Aa al ca, .string ⟨xt.toArray⟩, .slice Ak kl ck] 34) = X at *
          clear hX hch
          generalize hwn : wr.heap.size = wn at *
          have x2 : X.cell? ⟨wn, 2, none⟩ = some (.string ⟨xt.toArray⟩) := by rw [cell_of_row X _ 2 _ _ _ hbx1]; rfl
          have x3 : X.cell? ⟨wn, 3, none⟩ = some (.slice Ak kl ck) := by rw [cell_of_row X _ 3 _ _ _ hbx1]; rfl
          clear hbx1 a0 a1 a2 a3 hwn hok
          have l1 : acc.length + (xt.length + ft.length) ≤ 1000000 := hle2
          have hok2d : m.ok X.drew := hok2.ch ((Ch.refl (fun _ => False) X).drew) (fun _ hk => hk.elim)
          have x2d : X.drew.cell? ⟨wn, 2, none⟩ = some (.string ⟨xt.toArray⟩) := x2
          have x3d : X.drew.cell? ⟨wn, 3, none⟩ = some (.slice Ak kl ck) := x3
          have Hc2d := Lib.hid (Hc2.out.drew)
          go_region_with (go_at_call 10; refine (HT.out _ ?_).mono ?_; exact hok2d; rintro e w1 ⟨rfl, hc1⟩; have hx1 := hc1.cell x2d id; have hok3 := hok2d.ch hc1 (fun _ hk => hk.elim); have Hc3 := Lib.hid (Hc2d.out.trans hc1 (fun _ hk => .inl hk)))
          all_goals (go_wp2)
          all_goals go_roundw
          all_goals first
            | exact ⟨k + 1, by omega, by go_num, by rw [Htk.out, str_append, str_append], hok3, Hc3⟩
            | (simp [intOf]; omega)
      · have i1 : ¬ (k : Int) < (xs.length : Int) := by omega
        have hE : xs.take k = xs := List.take_of_length_le (by omega)
        rw [hE]
        clear hA ha
        go_wp2
        go_ret
        exact ⟨rfl, Hn.out⟩
end Go.Proofs.Ytlfimcpceiemnaa
