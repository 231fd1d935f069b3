/- A policy in plain Lean: its text, and what is read out of a text: a policy that may be is read as it was. -/
import Derived.Test.YtlfimcpceiemnaaDoorPolSpec
set_option linter.unusedVariables false
namespace Go.Proofs.YtlfimcpceiemnaaDoor
open Go Go.RowKit
/-! Texts, lines, words. -/
def digS (n : Nat) : Str := if n < 10 then [UInt8.ofNat (48 + n)] else digS (n / 10) ++ [UInt8.ofNat (48 + n % 10)]
termination_by n
decreasing_by omega
def decS (n : Int) : Str := digS n.toNat
def splitF (c : UInt8) : Str → List Str
  | [] => [[]]
  | x :: xs => if x = c then [] :: splitF c xs else match splitF c xs with | [] => [[x]] | y :: ys => (x :: y) :: ys
theorem splitF_ne (c : UInt8) (s : Str) : splitF c s ≠ [] := by
  cases s with
  | nil => simp [splitF]
  | cons x xs =>
    rw [splitF]
    split
    · simp
    · split <;> simp
theorem splitF_cons {c x : UInt8} {xs : Str} {y : Str} {ys : List Str} (hx : x ≠ c) (h : splitF c xs = y :: ys) : splitF c (x :: xs) = (x :: y) :: ys := by
  rw [splitF, if_neg hx, h]
theorem splitF_hit {c : UInt8} {xs : Str} : splitF c (c :: xs) = [] :: splitF c xs := by rw [splitF, if_pos rfl]
theorem splitF_app {c : UInt8} : ∀ (a b : Str), (∀ x ∈ a, x ≠ c) → splitF c (a ++ c :: b) = a :: splitF c b
  | [], b, _ => splitF_hit
  | x :: a, b, h => by
    rw [List.cons_append, splitF_cons (h x (by simp)) (splitF_app a b (fun y hy => h y (by simp [hy])))]
theorem splitF_one {c : UInt8} : ∀ (a : Str), (∀ x ∈ a, x ≠ c) → splitF c a = [a]
  | [], _ => rfl
  | x :: a, h => by rw [splitF_cons (h x (by simp)) (splitF_one a (fun y hy => h y (by simp [hy])))]
/-- No line's end and no blank in it. -/
def plainS (a : Str) : Prop := ∀ x ∈ a, x ≠ 10 ∧ x ≠ 32
theorem plainS_app {a b : Str} (ha : plainS a) (hb : plainS b) : plainS (a ++ b) := fun x hx => by
  rcases List.mem_append.1 hx with h | h
  · exact ha x h
  · exact hb x h
theorem plain_char {c : UInt8} (h : lowB c = true ∨ digB c = true ∨ c.toNat = 45) : c ≠ 10 ∧ c ≠ 32 := by
  constructor
  all_goals
    rintro rfl
    revert h
    simp [lowB, digB]
theorem plain_chars : ∀ (s : Str) (i : Nat), chars i s = true → plainS s
  | [], _, _ => fun x hx => by cases hx
  | c :: s, i, h => by
    rw [chars, Bool.and_eq_true] at h
    intro x hx
    rcases List.mem_cons.1 hx with rfl | hx
    · refine plain_char ?_
      have h1 := h.1
      simp only [chB, Bool.or_eq_true, Bool.and_eq_true, decide_eq_true_eq] at h1
      rcases h1 with h1 | ⟨_, h1 | h1⟩
      · exact .inl h1
      · exact .inr (.inl h1)
      · exact .inr (.inr h1)
    · exact plain_chars s (i + 1) h.2 x hx
theorem plain_word {s : Str} (h : wordF s = true) : plainS s := plain_chars s 0 (by rw [wordF, Bool.and_eq_true] at h; exact h.1)
theorem plain_attr {elems : List Str} {s : Str} (he : elems.all wordF = true) (h : attrF elems s = true) : plainS s := by
  unfold attrF at h
  cases hf : s.findIdx? (· == 46) with
  | none => rw [hf] at h; cases h
  | some i =>
    rw [hf] at h
    simp only [Bool.and_eq_true, Bool.or_eq_true, beq_iff_eq] at h
    obtain ⟨h1, h2⟩ := h
    obtain ⟨hi, hx, _⟩ := List.findIdx?_eq_some_iff_getElem.1 hf
    have hx' : s[i] = 46 := by simpa using hx
    have hs : s = s.take i ++ (46 :: s.drop (i + 1)) := by
      conv => lhs; rw [← List.take_append_drop i s, List.drop_eq_getElem_cons hi, hx']
    rw [hs]
    refine plainS_app ?_ ?_
    · rcases h1 with h1 | h1
      · rw [h1]; intro x hx; simp [cStar] at hx; subst hx; decide
      · rw [hasStr, List.contains_iff_mem] at h1
        exact plain_word (List.all_eq_true.1 he _ h1)
    · intro x hx
      rcases List.mem_cons.1 hx with rfl | hx
      · decide
      · have : wordF (s.drop (i + 1)) = true := by
          simp only [attrW, Bool.and_eq_true] at h2
          exact h2.1.1.1.1
        exact plain_word this x hx
theorem dig_char (k : Nat) (h : k < 10) : digB (UInt8.ofNat (48 + k)) = true := by
  have : (UInt8.ofNat (48 + k)).toNat = 48 + k := by simp [UInt8.toNat_ofNat']; omega
  simp only [digB, this, Bool.and_eq_true, decide_eq_true_eq]; omega
theorem digS_all (n : Nat) : (digS n).all digB = true := by
  induction n using digS.induct with
  | case1 n h => rw [digS, if_pos h, List.all_cons, dig_char n h]; rfl
  | case2 n h ih => rw [digS, if_neg h, List.all_append, ih, List.all_cons, dig_char _ (by omega)]; rfl
theorem plain_dec (n : Int) : plainS (decS n) := fun x hx => plain_char (.inr (.inl (List.all_eq_true.1 (digS_all _) x hx)))
/-- A number's value out of digits. -/
def digV (s : Str) : Int := s.foldl (fun n c => n * 10 + ((c.toNat : Int) - 48)) 0
theorem digV_snoc (s : Str) (c : UInt8) : digV (s ++ [c]) = digV s * 10 + ((c.toNat : Int) - 48) := by rw [digV, List.foldl_append]; rfl
theorem digV_digS (n : Nat) : digV (digS n) = n := by
  induction n using digS.induct with
  | case1 n h =>
    rw [digS, if_pos h]
    have : (UInt8.ofNat (48 + n)).toNat = 48 + n := by simp [UInt8.toNat_ofNat']; omega
    simp only [digV, List.foldl, this]; omega
  | case2 n h ih =>
    rw [digS, if_neg h, digV_snoc, ih]
    have : (UInt8.ofNat (48 + n % 10)).toNat = 48 + n % 10 := by simp [UInt8.toNat_ofNat']; omega
    rw [this]; omega
theorem digS_len (n k : Nat) (hk : 1 ≤ k) (h : n < 10 ^ k) : (digS n).length ≤ k := by
  induction n using digS.induct generalizing k with
  | case1 n h1 => rw [digS, if_pos h1]; simpa using hk
  | case2 n h1 ih =>
    rw [digS, if_neg h1, List.length_append]
    obtain ⟨j, rfl⟩ : ∃ j, k = j + 1 := ⟨k - 1, by omega⟩
    have hj : 1 ≤ j := by
      cases j with
      | zero => simp at h; omega
      | succ j => omega
    have := ih j hj (by rw [Nat.pow_succ] at h; omega)
    simp; omega
theorem digS_pos (n : Nat) : digS n ≠ [] := by
  rw [digS]
  split
  · simp
  · simp

def cEpoch : Str := [101, 112, 111, 99, 104]
def cElem : Str := [101, 108, 101, 109]
def cAttr : Str := [97, 116, 116, 114]
def cScheme : Str := [115, 99, 104, 101, 109, 101]
def cClass : Str := [99, 108, 97, 115, 115]
def cProp : Str := [112, 114, 111, 112]
def cCaps : Str := [99, 97, 112, 115]
def lineF (h s : Str) : Str := h ++ 32 :: (s ++ [10])
def linesF (h : Str) (l : List Str) : Str := l.flatMap (lineF h)
def textF (p : Pol) : Str := lineF cEpoch (decS p.epoch) ++ (linesF cElem p.elems ++ (linesF cAttr p.attrs ++ (linesF cScheme p.schemes ++ (linesF cClass p.classes ++ (linesF cProp p.props ++
  lineF cCaps (decS p.depth ++ 32 :: (decS p.nodes ++ 32 :: decS p.bytes)))))))
def zeroP : Pol := ⟨0, [], [], [], [], [], 0, 0, 0⟩
/-- A line's words laid into a policy. -/
def takeF (num : Str → Int) (p : Pol) (w : List Str) : Pol :=
  if w.length = 4 ∧ w[0]?.getD [] = cCaps then { p with depth := num (w[1]?.getD []), nodes := num (w[2]?.getD []), bytes := num (w[3]?.getD []) }
  else if w.length ≠ 2 then p
  else if w[0]?.getD [] = cEpoch then { p with epoch := num (w[1]?.getD []) }
  else if w[0]?.getD [] = cElem then { p with elems := p.elems ++ [w[1]?.getD []] }
  else if w[0]?.getD [] = cAttr then { p with attrs := p.attrs ++ [w[1]?.getD []] }
  else if w[0]?.getD [] = cScheme then { p with schemes := p.schemes ++ [w[1]?.getD []] }
  else if w[0]?.getD [] = cClass then { p with classes := p.classes ++ [w[1]?.getD []] }
  else if w[0]?.getD [] = cProp then { p with props := p.props ++ [w[1]?.getD []] }
  else p
def goF (num : Str → Int) (p : Pol) (s : Str) : Pol := (splitF 10 s).foldl (fun p l => takeF num p (splitF 32 l)) p
theorem goF_line (num : Str → Int) (p : Pol) {l : Str} (hl : ∀ x ∈ l, x ≠ 10) (s : Str) : goF num p (l ++ 10 :: s) = goF num (takeF num p (splitF 32 l)) s := by
  rw [goF, splitF_app l s hl]; rfl
theorem goF_pair (num : Str → Int) (p : Pol) {h a : Str} (hh : plainS h) (ha : plainS a) (s : Str) : goF num p (lineF h a ++ s) = goF num (takeF num p [h, a]) s := by
  have e : lineF h a ++ s = (h ++ 32 :: a) ++ 10 :: s := by simp [lineF]
  rw [e, goF_line num p (fun x hx => by
    rcases List.mem_append.1 hx with h1 | h1
    · exact (hh x h1).1
    · rcases List.mem_cons.1 h1 with rfl | h1
      · decide
      · exact (ha x h1).1), splitF_app h a (fun x hx => (hh x hx).2), splitF_one a (fun x hx => (ha x hx).2)]
theorem plain_lit {s : Str} (h : s.all (fun x => x != 10 && x != 32) = true) : plainS s := fun x hx => by
  have := List.all_eq_true.1 h x hx
  simpa using this
theorem goF_elems (num : Str → Int) : ∀ (l : List Str) (p : Pol) (s : Str), (∀ a ∈ l, plainS a) → goF num p (linesF cElem l ++ s) = goF num { p with elems := p.elems ++ l } s
  | [], p, s, _ => by simp [linesF]
  | a :: l, p, s, h => by
    rw [linesF, List.flatMap_cons, List.append_assoc, goF_pair num p (plain_lit (by decide)) (h a (by simp))]
    have := goF_elems num l (takeF num p [cElem, a]) s (fun b hb => h b (by simp [hb]))
    rw [linesF] at this
    rw [this]
    simp [takeF, cElem, cEpoch]
theorem goF_attrs (num : Str → Int) : ∀ (l : List Str) (p : Pol) (s : Str), (∀ a ∈ l, plainS a) → goF num p (linesF cAttr l ++ s) = goF num { p with attrs := p.attrs ++ l } s
  | [], p, s, _ => by simp [linesF]
  | a :: l, p, s, h => by
    rw [linesF, List.flatMap_cons, List.append_assoc, goF_pair num p (plain_lit (by decide)) (h a (by simp))]
    have := goF_attrs num l (takeF num p [cAttr, a]) s (fun b hb => h b (by simp [hb]))
    rw [linesF] at this
    rw [this]
    simp [takeF, cAttr, cElem, cEpoch]
theorem goF_schemes (num : Str → Int) : ∀ (l : List Str) (p : Pol) (s : Str), (∀ a ∈ l, plainS a) → goF num p (linesF cScheme l ++ s) = goF num { p with schemes := p.schemes ++ l } s
  | [], p, s, _ => by simp [linesF]
  | a :: l, p, s, h => by
    rw [linesF, List.flatMap_cons, List.append_assoc, goF_pair num p (plain_lit (by decide)) (h a (by simp))]
    have := goF_schemes num l (takeF num p [cScheme, a]) s (fun b hb => h b (by simp [hb]))
    rw [linesF] at this
    rw [this]
    simp [takeF, cScheme, cAttr, cElem, cEpoch]
theorem goF_classes (num : Str → Int) : ∀ (l : List Str) (p : Pol) (s : Str), (∀ a ∈ l, plainS a) → goF num p (linesF cClass l ++ s) = goF num { p with classes := p.classes ++ l } s
  | [], p, s, _ => by simp [linesF]
  | a :: l, p, s, h => by
    rw [linesF, List.flatMap_cons, List.append_assoc, goF_pair num p (plain_lit (by decide)) (h a (by simp))]
    have := goF_classes num l (takeF num p [cClass, a]) s (fun b hb => h b (by simp [hb]))
    rw [linesF] at this
    rw [this]
    simp [takeF, cClass, cScheme, cAttr, cElem, cEpoch]
theorem goF_props (num : Str → Int) : ∀ (l : List Str) (p : Pol) (s : Str), (∀ a ∈ l, plainS a) → goF num p (linesF cProp l ++ s) = goF num { p with props := p.props ++ l } s
  | [], p, s, _ => by simp [linesF]
  | a :: l, p, s, h => by
    rw [linesF, List.flatMap_cons, List.append_assoc, goF_pair num p (plain_lit (by decide)) (h a (by simp))]
    have := goF_props num l (takeF num p [cProp, a]) s (fun b hb => h b (by simp [hb]))
    rw [linesF] at this
    rw [this]
    simp [takeF, cProp, cClass, cScheme, cAttr, cElem, cEpoch]
/-- A reader of numbers that reads digits as they were. -/
def NumOk (num : Str → Int) : Prop := ∀ n : Int, 1 ≤ n → n ≤ 1000000 → num (decS n) = n
theorem goF_text {num : Str → Int} (hn : NumOk num) {p : Pol} (h : rightF p = true) : goF num zeroP (textF p) = p := by
  obtain ⟨epoch, elems, attrs, schemes, classes, props, depth, nodes, bytes⟩ := p
  simp only [rightF, Bool.and_eq_true] at h
  obtain ⟨⟨⟨⟨⟨h1, h2⟩, h3⟩, h4⟩, h5⟩, h6⟩ := h
  rw [numsF_iff] at h1
  dsimp only at h1
  simp only [listsF, wordsF, Bool.and_eq_true] at h2
  obtain ⟨⟨⟨⟨⟨e1, _⟩, e2⟩, ⟨e3, _⟩⟩, ⟨e4, _⟩⟩, ⟨e5, _⟩⟩ := h2
  have w1 : ∀ a ∈ elems, plainS a := fun a ha => plain_word (List.all_eq_true.1 e1 a ha)
  have w2 : ∀ a ∈ attrs, plainS a := fun a ha => plain_attr e1 (List.all_eq_true.1 h4 a ha)
  have w3 : ∀ a ∈ schemes, plainS a := fun a ha => plain_word (List.all_eq_true.1 e3 a ha)
  have w4 : ∀ a ∈ classes, plainS a := fun a ha => plain_word (List.all_eq_true.1 e4 a ha)
  have w5 : ∀ a ∈ props, plainS a := fun a ha => plain_word (List.all_eq_true.1 e5 a ha)
  rw [textF, goF_pair num _ (plain_lit (by decide)) (plain_dec _), goF_elems num _ _ _ w1, goF_attrs num _ _ _ w2, goF_schemes num _ _ _ w3, goF_classes num _ _ _ w4, goF_props num _ _ _ w5]
  have hcap : lineF cCaps (decS depth ++ 32 :: (decS nodes ++ 32 :: decS bytes)) = (cCaps ++ 32 :: (decS depth ++ 32 :: (decS nodes ++ 32 :: decS bytes))) ++ 10 :: [] := by simp [lineF]
  have hpl : ∀ x ∈ cCaps ++ 32 :: (decS depth ++ 32 :: (decS nodes ++ 32 :: decS bytes)), x ≠ 10 := fun x hx => by
    simp only [List.mem_append, List.mem_cons] at hx
    rcases hx with hx | rfl | hx | rfl | hx | rfl | hx
    · exact (plain_lit (s := cCaps) (by decide) x hx).1
    · decide
    · exact (plain_dec _ x hx).1
    · decide
    · exact (plain_dec _ x hx).1
    · decide
    · exact (plain_dec _ x hx).1
  rw [hcap, goF_line num _ hpl, splitF_app cCaps _ (fun x hx => (plain_lit (s := cCaps) (by decide) x hx).2), splitF_app _ _ (fun x hx => (plain_dec _ x hx).2), splitF_app _ _ (fun x hx => (plain_dec _ x hx).2), splitF_one _ (fun x hx => (plain_dec _ x hx).2)]
  simp [goF, splitF, takeF, cCaps, cEpoch, zeroP, hn epoch (by omega) (by omega), hn depth (by omega) (by omega), hn nodes (by omega) (by omega), hn bytes (by omega) (by omega)]
/-- The policy of a text. -/
def readF (num : Str → Int) (s : Str) : Option Pol := if rightF (goF num zeroP s) = true ∧ textF (goF num zeroP s) = s then some (goF num zeroP s) else none
theorem readF_some {num : Str → Int} {s : Str} {p : Pol} (h : readF num s = some p) : rightF p = true ∧ textF p = s := by
  unfold readF at h
  split at h
  · injection h with h; subst h; assumption
  · cases h
theorem readF_text {num : Str → Int} (hn : NumOk num) {p : Pol} (h : rightF p = true) : readF num (textF p) = some p := by
  unfold readF
  rw [goF_text hn h, if_pos ⟨h, rfl⟩]
theorem readF_same {n1 n2 : Str → Int} (h1 : NumOk n1) (h2 : NumOk n2) (s : Str) : readF n1 s = readF n2 s := by
  cases h : readF n1 s with
  | some p =>
    obtain ⟨hr, ht⟩ := readF_some h
    rw [← ht, readF_text h2 hr]
  | none =>
    cases k : readF n2 s with
    | none => rfl
    | some p =>
      obtain ⟨hr, ht⟩ := readF_some k
      rw [← ht, readF_text h1 hr] at h
      cases h
theorem risesF_len {l : List Str} (h : risesF l = true) : l.length ≤ 64 := by
  rw [risesF, Bool.and_eq_true] at h
  simpa using h.2
theorem word_len {s : Str} (h : wordF s = true) : s.length ≤ 32 := by
  simp only [wordF, Bool.and_eq_true, decide_eq_true_eq] at h
  exact h.2.2
theorem attr_len {elems : List Str} {s : Str} (he : elems.all wordF = true) (h : attrF elems s = true) : s.length ≤ 65 := by
  unfold attrF at h
  cases hf : s.findIdx? (· == 46) with
  | none => rw [hf] at h; cases h
  | some i =>
    rw [hf] at h
    simp only [Bool.and_eq_true, Bool.or_eq_true, beq_iff_eq] at h
    obtain ⟨h1, h2⟩ := h
    have h3 : (s.take i).length ≤ 32 := by
      rcases h1 with h1 | h1
      · rw [h1]; decide
      · rw [hasStr, List.contains_iff_mem] at h1
        exact word_len (List.all_eq_true.1 he _ h1)
    have h4 : (s.drop (i + 1)).length ≤ 32 := by
      simp only [attrW, Bool.and_eq_true] at h2
      exact word_len h2.1.1.1.1
    rw [List.length_take] at h3
    rw [List.length_drop] at h4
    omega
theorem lineF_len (h s : Str) : (lineF h s).length = h.length + s.length + 2 := by simp [lineF]; omega
theorem linesF_len (h : Str) (n : Nat) : ∀ l : List Str, (∀ s ∈ l, s.length ≤ n) → (linesF h l).length ≤ l.length * (h.length + n + 2)
  | [], _ => by simp [linesF]
  | s :: l, hs => by
    have h1 := linesF_len h n l (fun t ht => hs t (by simp [ht]))
    have h2 := hs s (by simp)
    have h3 : linesF h (s :: l) = lineF h s ++ linesF h l := rfl
    rw [h3, List.length_append, lineF_len, List.length_cons, Nat.succ_mul]
    omega
theorem dec_len (n : Int) (h : n ≤ 1000000) : (decS n).length ≤ 7 := digS_len _ 7 (by omega) (by omega)
theorem textF_len {p : Pol} (h : rightF p = true) : (textF p).length ≤ 20000 := by
  obtain ⟨epoch, elems, attrs, schemes, classes, props, depth, nodes, bytes⟩ := p
  simp only [rightF, Bool.and_eq_true] at h
  obtain ⟨⟨⟨⟨⟨h1, h2⟩, h3⟩, h4⟩, h5⟩, h6⟩ := h
  rw [numsF_iff] at h1
  dsimp only at h1
  simp only [listsF, wordsF, Bool.and_eq_true] at h2
  obtain ⟨⟨⟨⟨⟨e1, r1⟩, r2⟩, ⟨e3, r3⟩⟩, ⟨e4, r4⟩⟩, ⟨e5, r5⟩⟩ := h2
  have w1 := linesF_len cElem 32 elems (fun a ha => word_len (List.all_eq_true.1 e1 a ha))
  have w2 := linesF_len cAttr 65 attrs (fun a ha => attr_len e1 (List.all_eq_true.1 h4 a ha))
  have w3 := linesF_len cScheme 32 schemes (fun a ha => word_len (List.all_eq_true.1 e3 a ha))
  have w4 := linesF_len cClass 32 classes (fun a ha => word_len (List.all_eq_true.1 e4 a ha))
  have w5 := linesF_len cProp 32 props (fun a ha => word_len (List.all_eq_true.1 e5 a ha))
  have l1 := risesF_len r1
  have l2 := risesF_len r2
  have l3 := risesF_len r3
  have l4 := risesF_len r4
  have l5 := risesF_len r5
  have d1 := dec_len epoch (by omega)
  have d2 := dec_len depth (by omega)
  have d3 := dec_len nodes (by omega)
  have d4 := dec_len bytes (by omega)
  have c1 : cEpoch.length = 5 := rfl
  have c2 : cElem.length = 4 := rfl
  have c3 : cAttr.length = 4 := rfl
  have c4 : cScheme.length = 6 := rfl
  have c5 : cClass.length = 5 := rfl
  have c6 : cProp.length = 4 := rfl
  have c7 : cCaps.length = 4 := rfl
  rw [c2] at w1
  rw [c3] at w2
  rw [c4] at w3
  rw [c5] at w4
  rw [c6] at w5
  rw [textF]
  simp only [List.length_append, lineF_len, List.length_cons, c1, c7]
  omega

end Go.Proofs.YtlfimcpceiemnaaDoor
