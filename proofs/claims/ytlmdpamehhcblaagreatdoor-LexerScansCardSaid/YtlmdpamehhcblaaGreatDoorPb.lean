import Derived.Test.YtlmdpamehhcblaaGreatDoorPa
import Derived.Lib.SlTrimSet
/- Plain laws: the classes of bytes; words, numbers, tokens, normal texts of the lexer. No program in sight. -/
namespace Go.Proofs.YtlmdpamehhcblaaGreatDoorD
open Go.Lib

/-- The signs. -/
def marks : List UInt8 := [44, 59, 58, 40, 41, 91, 93, 61, 43, 45, 42, 47, 60, 62, 124, 35]
def isLet (c : UInt8) : Bool := (97 ≤ c && c ≤ 122) || (65 ≤ c && c ≤ 90)
/-- The class of a byte. -/
def cls (c : UInt8) : Nat := if isLet c then 1 else if isDig c then 2 else if c = 95 then 3 else if c = 32 then 5 else if marks.contains c then 4 else 0
/-- How many bytes at the beginning are of some classes. -/
def spanN (l : List Nat) (s : List UInt8) : Nat := (s.takeWhile fun c => l.contains (cls c)).length
theorem spanN_le (l : List Nat) (s : List UInt8) : spanN l s ≤ s.length := (List.takeWhile_prefix _).length_le
theorem spanN_nil (l : List Nat) : spanN l [] = 0 := rfl
theorem spanN_cons (l : List Nat) (c : UInt8) (s : List UInt8) : spanN l (c :: s) = if l.contains (cls c) then spanN l s + 1 else 0 := by
  unfold spanN
  rw [List.takeWhile_cons]
  cases l.contains (cls c) <;> rfl
/-- What the classes of the first bytes are. -/
theorem spanN_in (l : List Nat) : ∀ (s : List UInt8) (j : Nat), j < spanN l s → ∃ h : j < s.length, l.contains (cls s[j]) = true
  | [], j, h => by rw [spanN_nil] at h; omega
  | c :: s, 0, h => ⟨by simp, by
    rw [spanN_cons] at h
    cases hc : l.contains (cls c) with
    | true => exact hc
    | false => rw [hc] at h; simp at h⟩
  | c :: s, j + 1, h => by
    rw [spanN_cons] at h
    split at h
    · obtain ⟨h1, h2⟩ := spanN_in l s j (by omega)
      exact ⟨by simp; omega, h2⟩
    · omega
theorem spanN_at (l : List Nat) : ∀ (s : List UInt8) (h : spanN l s < s.length), l.contains (cls (s[spanN l s]'h)) = false
  | [], h => by simp at h
  | c :: s, h => by
    cases hc : l.contains (cls c) with
    | true =>
      have e : spanN l (c :: s) = spanN l s + 1 := by rw [spanN_cons, if_pos hc]
      have h2 : spanN l s < s.length := by rw [e] at h; simp at h; omega
      have := spanN_at l s h2
      simp only [e, List.getElem_cons_succ]
      exact this
    | false =>
      have e : spanN l (c :: s) = 0 := by rw [spanN_cons, if_neg (by rw [hc]; simp)]
      simp only [e, List.getElem_cons_zero]
      exact hc
/-- The number is the only one such. -/
theorem spanN_eq (l : List Nat) (s : List UInt8) (n : Nat) (hn : n ≤ s.length) (h1 : ∀ j (h : j < n), l.contains (cls (s[j]'(by omega))) = true) (h2 : ∀ h : n < s.length, l.contains (cls s[n]) = false) : spanN l s = n := by
  rcases Nat.lt_trichotomy (spanN l s) n with h | h | h
  · have a := h1 _ h
    have b := spanN_at l s (by omega)
    rw [a] at b; cases b
  · exact h
  · obtain ⟨a, b⟩ := spanN_in l s n h
    rw [h2 a] at b; cases b
/-- How long the word at the beginning is. -/
def wlen (s : List UInt8) : Nat := if cls (s.getD 0 0) = 1 then spanN [1, 2, 3] s else 0
/-- How many digits are at the beginning. -/
def nfront (s : List UInt8) : Nat := spanN [2] s
/-- How long the number at the beginning is. -/
def nlen (s : List UInt8) : Nat :=
  if nfront s = 0 ∨ s.length ≤ nfront s + 1 ∨ s.getD (nfront s) 0 ≠ 46 then nfront s else if nfront (s.drop (nfront s + 1)) = 0 then nfront s else nfront s + 1 + nfront (s.drop (nfront s + 1))
/-- The error of a word, of a number. -/
def werr (s : List UInt8) : Nat := if s = [] ∨ wlen s ≠ s.length then 3 else if 24 < s.length then 17 else 0
def nerr (s : List UInt8) : Nat := if nlen s = 0 ∨ nlen s ≠ s.length ∨ (1 < nfront s ∧ s.getD 0 0 = 48) then 3 else if 24 < s.length then 17 else 0
theorem wlen_le (s : List UInt8) : wlen s ≤ s.length := by unfold wlen; split; exact spanN_le _ _; omega
theorem nfront_le (s : List UInt8) : nfront s ≤ s.length := spanN_le _ _
theorem nlen_le (s : List UInt8) : nlen s ≤ s.length := by
  unfold nlen
  have h1 := nfront_le s
  have h2 := nfront_le (s.drop (nfront s + 1))
  rw [List.length_drop] at h2
  split
  · exact h1
  · rename_i h
    split
    · exact h1
    · omega
theorem nlen_ge (s : List UInt8) : nfront s ≤ nlen s := by unfold nlen; split; omega; split <;> omega
/-- A token. -/
structure Tok where
  kind : Int
  text : List UInt8
  pos : Int
/-- The kind, the length, the error of the token at the beginning. -/
def nextT (s : List UInt8) : Int × Nat × Nat :=
  if cls (s.getD 0 0) = 1 then (0, wlen s, werr (s.take (wlen s))) else if cls (s.getD 0 0) = 2 then (1, nlen s, nerr (s.take (nlen s))) else if cls (s.getD 0 0) = 4 then (2, 1, 0) else (0, 0, 4)
theorem cls_0 : cls 0 = 0 := by decide
theorem nextT_pos {s : List UInt8} (h0 : s ≠ []) (h : (nextT s).2.2 = 0) : 0 < (nextT s).2.1 := by
  obtain ⟨c, r, rfl⟩ : ∃ c r, s = c :: r := by
    cases s with
    | nil => exact absurd rfl h0
    | cons c r => exact ⟨c, r, rfl⟩
  unfold nextT at h ⊢
  rw [List.getD_cons_zero] at h ⊢
  by_cases h1 : cls c = 1
  · rw [if_pos h1] at h ⊢
    show 0 < wlen (c :: r)
    unfold wlen
    rw [List.getD_cons_zero, if_pos h1, spanN_cons, if_pos (by rw [h1]; rfl)]
    omega
  · rw [if_neg h1] at h ⊢
    by_cases h2 : cls c = 2
    · rw [if_pos h2] at h ⊢
      show 0 < nlen (c :: r)
      have := nlen_ge (c :: r)
      have e : nfront (c :: r) = nfront r + 1 := by unfold nfront; rw [spanN_cons, if_pos (by rw [h2]; rfl)]
      omega
    · rw [if_neg h2] at h ⊢
      by_cases h4 : cls c = 4
      · rw [if_pos h4] at h ⊢; exact Nat.one_pos
      · rw [if_neg h4] at h; exact absurd h (by decide)
theorem nextT_le {s : List UInt8} (h0 : s ≠ []) : (nextT s).2.1 ≤ s.length := by
  have hl : 0 < s.length := List.length_pos_iff.2 h0
  unfold nextT
  split
  · exact wlen_le s
  · split
    · exact nlen_le s
    · split
      · exact hl
      · exact Nat.zero_le _
/-- The tokens of what is left of a text, behind those that are there. -/
def scanF : Nat → List UInt8 → Nat → List Tok → List Tok × Nat × Nat
  | 0, _, _, _ => ([], 0, 0)
  | f + 1, s, p, acc =>
    if s = [] then (acc ++ [⟨3, [], p⟩], 0, 0)
    else if cls (s.getD 0 0) = 5 then scanF f (s.drop 1) (p + 1) acc
    else if (nextT s).2.2 ≠ 0 then ([], p, (nextT s).2.2)
    else scanF f (s.drop (nextT s).2.1) (p + (nextT s).2.1) (acc ++ [⟨(nextT s).1, s.take (nextT s).2.1, p⟩])
/-- The tokens of a text, or an offset and the error. -/
def scanT (s : List UInt8) : List Tok × Nat × Nat := if 4096 < s.length then ([], 0, 17) else scanF (s.length + 1) s 0 []
theorem scanF_end (f p : Nat) (acc : List Tok) : scanF (f + 1) [] p acc = (acc ++ [⟨3, [], p⟩], 0, 0) := by unfold scanF; rw [if_pos rfl]
theorem scanF_blank {f p : Nat} {s : List UInt8} {acc : List Tok} (h0 : s ≠ []) (h : cls (s.getD 0 0) = 5) : scanF (f + 1) s p acc = scanF f (s.drop 1) (p + 1) acc := by
  show (if s = [] then _ else _) = _
  rw [if_neg h0, if_pos h]
theorem scanF_err {f p : Nat} {s : List UInt8} {acc : List Tok} (h0 : s ≠ []) (h : cls (s.getD 0 0) ≠ 5) (he : (nextT s).2.2 ≠ 0) : scanF (f + 1) s p acc = ([], p, (nextT s).2.2) := by
  show (if s = [] then _ else _) = _
  rw [if_neg h0, if_neg h, if_pos he]
theorem scanF_tok {f p : Nat} {s : List UInt8} {acc : List Tok} (h0 : s ≠ []) (h : cls (s.getD 0 0) ≠ 5) (he : (nextT s).2.2 = 0) :
    scanF (f + 1) s p acc = scanF f (s.drop (nextT s).2.1) (p + (nextT s).2.1) (acc ++ [⟨(nextT s).1, s.take (nextT s).2.1, p⟩]) := by
  show (if s = [] then _ else _) = _
  rw [if_neg h0, if_neg h, if_neg (by rw [he]; simp)]
/-- The error of a token, which is the last one or not. -/
def formT (t : Tok) (last : Bool) : Nat :=
  if t.kind = 0 then werr t.text else if t.kind = 1 then nerr t.text
  else if t.kind = 2 then (if t.text.length = 1 ∧ cls (t.text.getD 0 0) = 4 then 0 else 3)
  else if t.kind = 3 then (if last then (if t.text = [] then 0 else 3) else 9) else 1
/-- Is a blank between two tokens? -/
def apartT (a b : Int) : Bool := (b == 1 && (a == 0 || a == 1)) || (a == 0 && b == 0)
def tok0 : Tok := ⟨0, [], 0⟩
/-- The normal text of the first tokens. -/
def glueN (l : List Tok) : Nat → List UInt8
  | 0 => []
  | i + 1 => glueN l i ++ ((if 0 < i ∧ apartT (l.getD (i - 1) tok0).kind (l.getD i tok0).kind = true then [32] else []) ++ (l.getD i tok0).text)
/-- The first error among the tokens from one on. -/
def ferrF (l : List Tok) : Nat → Nat → Nat
  | 0, _ => 0
  | f + 1, i => if formT (l.getD i tok0) (decide (i + 1 = l.length)) ≠ 0 then formT (l.getD i tok0) (decide (i + 1 = l.length)) else ferrF l f (i + 1)
/-- The normal text of tokens, or the error. -/
def joinT (l : List Tok) : List UInt8 × Nat :=
  if 4097 < l.length then ([], 5) else if ferrF l l.length 0 ≠ 0 then ([], ferrF l l.length 0)
  else if 4096 < (glueN l l.length).length then ([], 17) else (glueN l l.length, 0)
/-- The normal text of the tokens of a text. -/
def normT (s : List UInt8) : List UInt8 × Nat × Nat := if (scanT s).2.2 ≠ 0 then ([], (scanT s).2.1, (scanT s).2.2) else ((joinT (scanT s).1).1, 0, (joinT (scanT s).1).2)
theorem werr_len {s : List UInt8} (h : werr s = 0) : s.length ≤ 24 := by
  unfold werr at h
  split at h
  · cases h
  · split at h
    · cases h
    · omega
theorem nerr_len {s : List UInt8} (h : nerr s = 0) : s.length ≤ 24 := by
  unfold nerr at h
  split at h
  · cases h
  · split at h
    · cases h
    · omega
theorem formT_len {t : Tok} {last : Bool} (h : formT t last = 0) : t.text.length ≤ 24 := by
  unfold formT at h
  split at h
  · exact werr_len h
  · split at h
    · exact nerr_len h
    · split at h
      · split at h
        · omega
        · cases h
      · split at h
        · split at h
          · split at h
            · rename_i h3; rw [h3]; decide
            · cases h
          · cases h
        · cases h
theorem ferrF_err {l : List Tok} {j : Nat} (hj : j < l.length) (h : formT (l.getD j tok0) (decide (j + 1 = l.length)) ≠ 0) : ferrF l (l.length - j) j = formT (l.getD j tok0) (decide (j + 1 = l.length)) := by
  obtain ⟨f, hf⟩ : ∃ f, l.length - j = f + 1 := ⟨l.length - j - 1, by omega⟩
  rw [hf]
  show (if _ then _ else _) = _
  rw [if_pos h]
theorem ferrF_ok {l : List Tok} {j : Nat} (hj : j < l.length) (h : formT (l.getD j tok0) (decide (j + 1 = l.length)) = 0) : ferrF l (l.length - j) j = ferrF l (l.length - (j + 1)) (j + 1) := by
  obtain ⟨f, hf⟩ : ∃ f, l.length - j = f + 1 := ⟨l.length - j - 1, by omega⟩
  rw [hf, show l.length - (j + 1) = f by omega]
  show (if _ then _ else _) = _
  rw [if_neg (by rw [h]; simp)]
theorem ferrF_end {l : List Tok} {j : Nat} (hj : l.length ≤ j) : ferrF l (l.length - j) j = 0 := by
  rw [show l.length - j = 0 by omega]; rfl
theorem glueN_0 (l : List Tok) : glueN l 0 = [] := rfl
theorem glueN_first (l : List Tok) : glueN l 1 = (l.getD 0 tok0).text := by
  show [] ++ ((if _ then _ else _) ++ _) = _
  rw [if_neg (by simp)]; rfl
theorem glueN_near {l : List Tok} {i : Nat} (h : apartT (l.getD i tok0).kind (l.getD (i + 1) tok0).kind = false) : glueN l (i + 1 + 1) = glueN l (i + 1) ++ (l.getD (i + 1) tok0).text := by
  show glueN l (i + 1) ++ ((if 0 < i + 1 ∧ apartT (l.getD (i + 1 - 1) tok0).kind _ = true then _ else _) ++ _) = _
  rw [Nat.add_sub_cancel, if_neg (by rw [h]; simp)]; rfl
theorem glueN_apart {l : List Tok} {i : Nat} (h : apartT (l.getD i tok0).kind (l.getD (i + 1) tok0).kind = true) : glueN l (i + 1 + 1) = glueN l (i + 1) ++ [32] ++ (l.getD (i + 1) tok0).text := by
  show glueN l (i + 1) ++ ((if 0 < i + 1 ∧ apartT (l.getD (i + 1 - 1) tok0).kind _ = true then _ else _) ++ _) = _
  rw [Nat.add_sub_cancel, if_pos ⟨by omega, h⟩, List.append_assoc]
/-- What holds of the tokens that are there and of every token that comes holds of all. -/
theorem scanF_all (P : Tok → Prop) (n : Nat) (h1 : ∀ p, P ⟨3, [], p⟩) (h2 : ∀ k s p, s.length ≤ n → P ⟨k, s, p⟩) : ∀ (f : Nat) (s : List UInt8) (p : Nat) (acc : List Tok), s.length ≤ n → (∀ t ∈ acc, P t) → ∀ t ∈ (scanF f s p acc).1, P t
  | 0, s, p, acc, _, _ => fun t ht => by simp [scanF] at ht
  | f + 1, s, p, acc, hs, ha => by
    by_cases h0 : s = []
    · subst h0
      rw [scanF_end]
      intro t ht
      rcases List.mem_append.1 ht with ht | ht
      · exact ha t ht
      · rw [List.mem_singleton.1 ht]; exact h1 _
    · by_cases hb : cls (s.getD 0 0) = 5
      · rw [scanF_blank h0 hb]
        exact scanF_all P n h1 h2 f _ _ acc (by rw [List.length_drop]; omega) ha
      · by_cases he : (nextT s).2.2 = 0
        · rw [scanF_tok h0 hb he]
          refine scanF_all P n h1 h2 f _ _ _ (by rw [List.length_drop]; omega) (fun t ht => ?_)
          rcases List.mem_append.1 ht with ht | ht
          · exact ha t ht
          · rw [List.mem_singleton.1 ht]; exact h2 _ _ _ (by rw [List.length_take]; omega)
        · rw [scanF_err h0 hb he]; intro t ht; simp at ht
theorem scanT_texts (s : List UInt8) : ∀ t ∈ (scanT s).1, t.text.length ≤ s.length := by
  unfold scanT
  split
  · intro t ht; simp at ht
  · exact scanF_all _ s.length (fun p => Nat.zero_le _) (fun k s p h => h) _ _ _ _ (Nat.le_refl _) (fun t ht => by simp at ht)
theorem getD_all {P : Tok → Prop} {l : List Tok} (h : ∀ t ∈ l, P t) (h0 : P tok0) (j : Nat) : P (l.getD j tok0) := by
  rcases Nat.lt_or_ge j l.length with hj | hj
  · rw [List.getD_eq_getElem?_getD, List.getElem?_eq_getElem hj]; exact h _ (List.getElem_mem hj)
  · rw [List.getD_eq_getElem?_getD, List.getElem?_eq_none hj]; exact h0
/-- The count of the tokens. -/
theorem scanF_len : ∀ (f : Nat) (s : List UInt8) (p : Nat) (acc : List Tok), (scanF f s p acc).1.length ≤ acc.length + s.length + 1
  | 0, s, p, acc => Nat.zero_le _
  | f + 1, s, p, acc => by
    by_cases h0 : s = []
    · subst h0; rw [scanF_end]; simp
    · have hl : 0 < s.length := List.length_pos_iff.2 h0
      by_cases hb : cls (s.getD 0 0) = 5
      · rw [scanF_blank h0 hb]
        have := scanF_len f (s.drop 1) (p + 1) acc
        rw [List.length_drop] at this; omega
      · by_cases he : (nextT s).2.2 = 0
        · rw [scanF_tok h0 hb he]
          have := scanF_len f (s.drop (nextT s).2.1) (p + (nextT s).2.1) (acc ++ [⟨(nextT s).1, s.take (nextT s).2.1, p⟩])
          have h2 := nextT_pos h0 he
          have h3 := nextT_le h0
          rw [List.length_drop, List.length_append, List.length_singleton] at this; omega
        · rw [scanF_err h0 hb he]; exact Nat.zero_le _
theorem scanT_len (s : List UInt8) : (scanT s).1.length ≤ 4097 := by
  unfold scanT
  split
  · exact Nat.zero_le _
  · have := scanF_len (s.length + 1) s 0 []
    simp at this; omega
end Go.Proofs.YtlmdpamehhcblaaGreatDoorD
/- Plain laws: the value of a number's text, decimals. No program in sight. -/
namespace Go.Proofs.YtlmdpamehhcblaaGreatDoorD
open Go.Lib

/-- The digits in front of the point of a text, and those behind it. -/
def vfront (s : List UInt8) : List UInt8 := (cutc 46 s).1
def vback (s : List UInt8) : List UInt8 := (cutc 46 s).2.1
/-- The number with the text of a right number. -/
def valT (s : List UInt8) : Rat := mkRat (val (vfront s ++ vback s)) (10 ^ (vback s).length)
theorem cls_dig {c : UInt8} (h : cls c = 2) : isDig c = true := by
  unfold cls at h
  split at h
  · cases h
  · split at h
    · assumption
    · split at h
      · cases h
      · split at h
        · cases h
        · split at h <;> cases h
theorem span_digs (s : List UInt8) : (s.take (nfront s)).all isDig = true := by
  rw [List.all_eq_true]
  intro c hc
  obtain ⟨i, hi, rfl⟩ := List.mem_iff_getElem.1 hc
  rw [List.length_take] at hi
  obtain ⟨h1, h2⟩ := spanN_in [2] s i (by unfold nfront at hi; omega)
  rw [List.getElem_take]
  simp only [List.contains_eq_mem, List.mem_singleton, decide_eq_true_eq] at h2
  exact cls_dig h2
theorem isDig_cls {c : UInt8} (h : isDig c = true) : cls c = 2 := by
  have h2 := (isDig_iff c).1 h
  unfold cls
  have h3 : isLet c = false := by
    unfold isLet
    rw [Bool.or_eq_false_iff]
    constructor <;> (rw [Bool.and_eq_false_iff]; left; rw [decide_eq_false_iff_not, UInt8.le_iff_toNat_le]; simp; omega)
  rw [h3, if_neg (by simp), if_pos h]
theorem digs_span {l m : List UInt8} (h : l.all isDig = true) (hm : ∀ c r, m = c :: r → isDig c = false) : nfront (l ++ m) = l.length := by
  unfold nfront
  refine spanN_eq _ _ _ (by simp) (fun j hj => ?_) (fun hj => ?_)
  · rw [List.getElem_append_left hj]
    have := List.all_eq_true.1 h _ (List.getElem_mem hj)
    simp [isDig_cls this]
  · cases m with
    | nil => simp at hj
    | cons c r =>
      have := hm c r rfl
      simp only [List.getElem_append_right (Nat.le_refl _), Nat.sub_self, List.getElem_cons_zero]
      simp only [List.contains_eq_mem, List.mem_singleton, decide_eq_false_iff_not]
      intro h2
      rw [cls_dig h2] at this; cases this
theorem digs_span' {l : List UInt8} (h : l.all isDig = true) : nfront l = l.length := by
  have := digs_span (m := []) h (fun c r e => by cases e)
  rwa [List.append_nil] at this
theorem dig_no46 {l : List UInt8} (h : l.all isDig = true) : (46 : UInt8) ∉ l := fun hm => by
  have := List.all_eq_true.1 h _ hm
  simp [isDig] at this
/-- What a right number's text is made of. -/
theorem nerr_parts {s : List UInt8} (h : nerr s = 0) : ∃ a b : List UInt8, a.all isDig = true ∧ b.all isDig = true ∧ a ≠ [] ∧ (a.length = 1 ∨ a.head? ≠ some 48) ∧ vfront s = a ∧ vback s = b ∧ ((b = [] ∧ s = a) ∨ (b ≠ [] ∧ s = a ++ 46 :: b)) ∧ s.length ≤ 24 := by
  have hlen := nerr_len h
  unfold nerr at h
  split at h
  · cases h
  · rename_i hn
    simp only [not_or, ne_eq, Decidable.not_not] at hn
    obtain ⟨n0, n1, n2⟩ := hn
    have hd := span_digs s
    have hdr : s.getD 0 0 = (s.take (nfront s)).head?.getD 0 ∨ nfront s = 0 := by
      cases s with
      | nil => right; rfl
      | cons c r =>
        rcases Nat.eq_zero_or_pos (nfront (c :: r)) with h0 | h0
        · exact .inr h0
        · left
          obtain ⟨k, hk⟩ : ∃ k, nfront (c :: r) = k + 1 := ⟨nfront (c :: r) - 1, by omega⟩
          rw [hk]; rfl
    have hhead : 0 < nfront s → ((s.take (nfront s)).length = 1 ∨ (s.take (nfront s)).head? ≠ some 48) := by
      intro hp
      have hl : (s.take (nfront s)).length = nfront s := by rw [List.length_take]; have := nfront_le s; omega
      by_cases h1 : 1 < nfront s
      · right
        intro e
        rw [e] at hdr
        rcases hdr with h2 | h2
        · exact n2 ⟨h1, h2⟩
        · omega
      · left; omega
    unfold nlen at n0 n1
    split at n1
    · -- all digits
      rename_i hc
      rw [if_pos hc] at n0
      have e : s.take (nfront s) = s := List.take_of_length_le (by omega)
      rw [e] at hd hhead
      have hb := cutc_none (dig_no46 hd)
      refine ⟨s, [], hd, rfl, ?_, hhead (by omega), by unfold vfront; rw [hb], by unfold vback; rw [hb], .inl ⟨rfl, rfl⟩, hlen⟩
      intro e2; rw [e2] at n1; exact n0 (by rw [e2, n1]; rfl)
    · rename_i hc
      rw [if_neg hc] at n0
      simp only [not_or, Nat.not_le, ne_eq, Decidable.not_not] at hc
      obtain ⟨c0, c1, c2⟩ := hc
      split at n1
      · omega
      · rename_i hq
        have hd2 := span_digs (s.drop (nfront s + 1))
        have e2 : (s.drop (nfront s + 1)).take (nfront (s.drop (nfront s + 1))) = s.drop (nfront s + 1) := List.take_of_length_le (by rw [List.length_drop]; omega)
        rw [e2] at hd2
        have hs : s = s.take (nfront s) ++ 46 :: s.drop (nfront s + 1) := by
          conv => lhs; rw [← List.take_append_drop (nfront s) s]
          congr 1
          rw [List.drop_eq_getElem_cons (by omega)]
          congr 1
          rw [List.getD_eq_getElem?_getD, List.getElem?_eq_getElem (by omega)] at c2
          exact c2
        have hb := cutc_some (m := s.drop (nfront s + 1)) (dig_no46 hd)
        rw [← hs] at hb
        refine ⟨_, _, hd, hd2, ?_, hhead (by omega), by unfold vfront; rw [hb], by unfold vback; rw [hb], .inr ⟨?_, hs⟩, hlen⟩
        · intro e; have := congrArg List.length e; rw [List.length_take, List.length_nil] at this; omega
        · intro e; rw [e] at hq; exact hq rfl
theorem nerr_of {a b : List UInt8} (ha : a.all isDig = true) (hb : b.all isDig = true) (h0 : a ≠ []) (h1 : a.length = 1 ∨ a.head? ≠ some 48) (s : List UInt8) (hs : (b = [] ∧ s = a) ∨ (b ≠ [] ∧ s = a ++ 46 :: b)) (hl : s.length ≤ 24) : nerr s = 0 := by
  have hp : 0 < a.length := List.length_pos_iff.2 h0
  have key : nlen s = s.length ∧ nfront s = a.length ∧ s.getD 0 0 = a.head?.getD 0 := by
    rcases hs with ⟨rfl, rfl⟩ | ⟨hb0, rfl⟩
    · refine ⟨?_, digs_span' ha, by cases s with | nil => rfl | cons c r => rfl⟩
      unfold nlen; rw [digs_span' ha, if_pos (.inr (.inl (by omega)))]
    · have hbp : 0 < b.length := List.length_pos_iff.2 hb0
      have e1 : nfront (a ++ 46 :: b) = a.length := digs_span ha (fun c r e => by cases e; rfl)
      have e2 : (a ++ 46 :: b).drop (a.length + 1) = b := by
        rw [show a ++ 46 :: b = (a ++ [46]) ++ b by simp]
        exact List.drop_left' (by simp)
      refine ⟨?_, e1, ?_⟩
      · unfold nlen
        rw [e1, e2, digs_span' hb, if_neg, if_neg (by omega)]
        · simp; omega
        · simp only [not_or, Nat.not_le, ne_eq, Decidable.not_not]
          refine ⟨by omega, by simp; omega, ?_⟩
          rw [List.getD_eq_getElem?_getD, List.getElem?_append_right (Nat.le_refl _), Nat.sub_self]; rfl
      · cases a with
        | nil => simp at hp
        | cons c r => rfl
  unfold nerr
  rw [key.1, key.2.1, key.2.2, if_neg, if_neg (by omega)]
  have hsl : a.length ≤ s.length := by have := nfront_le s; omega
  simp only [not_or, ne_eq, Decidable.not_not, not_and]
  refine ⟨by omega, trivial, fun h2 h3 => ?_⟩
  rcases h1 with h1 | h1
  · omega
  · cases a with
    | nil => simp at hp
    | cons c r => simp at h1 h3; exact h1 h3
end Go.Proofs.YtlmdpamehhcblaaGreatDoorD
/- Plain laws: the decimals of a number. No program in sight. -/
namespace Go.Proofs.YtlmdpamehhcblaaGreatDoorD
open Go.Lib

/-- n without the factors p. -/
def strip (p : Nat) : Nat → Nat → Nat
  | 0, n => n
  | f + 1, n => if n % p = 0 then strip p f (n / p) else n
def stripN (p n : Nat) : Nat := strip p n n
theorem strip_fuel (p : Nat) (hp : 2 ≤ p) : ∀ (f g n : Nat), 0 < n → n ≤ f → n ≤ g → strip p f n = strip p g n
  | 0, g, n, h0, h1, _ => by omega
  | f + 1, 0, n, h0, _, h2 => by omega
  | f + 1, g + 1, n, h0, h1, h2 => by
    show (if n % p = 0 then strip p f (n / p) else n) = (if n % p = 0 then strip p g (n / p) else n)
    split
    · rename_i h
      have hlt : n / p < n := Nat.div_lt_self h0 hp
      have hpos : 0 < n / p := Nat.div_pos (Nat.le_of_dvd h0 (Nat.dvd_of_mod_eq_zero h)) (by omega)
      exact strip_fuel p hp f g _ hpos (by omega) (by omega)
    · rfl
theorem stripN_step {p n : Nat} (hp : 2 ≤ p) (h0 : 0 < n) : stripN p n = if n % p = 0 then stripN p (n / p) else n := by
  obtain ⟨m, rfl⟩ : ∃ m, n = m + 1 := ⟨n - 1, by omega⟩
  show (if (m + 1) % p = 0 then strip p m ((m + 1) / p) else m + 1) = _
  split
  · rename_i h
    have hlt : (m + 1) / p < m + 1 := Nat.div_lt_self h0 hp
    have hpos : 0 < (m + 1) / p := Nat.div_pos (Nat.le_of_dvd h0 (Nat.dvd_of_mod_eq_zero h)) (by omega)
    exact strip_fuel p hp _ _ _ hpos (by omega) (Nat.le_refl _)
  · rfl
theorem stripN_spec {p : Nat} (hp : 2 ≤ p) : ∀ (f n : Nat), n ≤ f → 0 < n → ∃ a, n = p ^ a * stripN p n ∧ stripN p n % p ≠ 0 ∧ 0 < stripN p n
  | 0, n, h, h0 => by omega
  | f + 1, n, h, h0 => by
    rw [stripN_step hp h0]
    by_cases hm : n % p = 0
    · rw [if_pos hm]
      have hlt : n / p < n := Nat.div_lt_self h0 hp
      have hpos : 0 < n / p := Nat.div_pos (Nat.le_of_dvd h0 (Nat.dvd_of_mod_eq_zero hm)) (by omega)
      obtain ⟨a, e, k1, k2⟩ := stripN_spec hp f (n / p) (by omega) hpos
      refine ⟨a + 1, ?_, k1, k2⟩
      rw [Nat.pow_succ, Nat.mul_comm (p ^ a) p, Nat.mul_assoc, ← e, Nat.mul_comm, Nat.div_mul_cancel (Nat.dvd_of_mod_eq_zero hm)]
    · rw [if_neg hm]
      exact ⟨0, by simp, hm, h0⟩
theorem stripN_pos {p n : Nat} (hp : 2 ≤ p) (h0 : 0 < n) : 0 < stripN p n := by
  obtain ⟨_, _, _, h⟩ := stripN_spec hp n n (Nat.le_refl _) h0; exact h
theorem stripN_le {p n : Nat} (hp : 2 ≤ p) (h0 : 0 < n) : stripN p n ≤ n := by
  obtain ⟨a, e, _, h⟩ := stripN_spec hp n n (Nat.le_refl _) h0
  have : 1 * stripN p n ≤ p ^ a * stripN p n := Nat.mul_le_mul_right _ (Nat.pow_pos (by omega))
  omega
/-- Has a denominator no prime factors but 2 and 5? -/
def fin (d : Nat) : Bool := stripN 5 (stripN 2 d) == 1
theorem lt_pow {p : Nat} (hp : 2 ≤ p) (a : Nat) : a < p ^ a := by
  induction a with
  | zero => simp
  | succ a ih =>
    rw [Nat.pow_succ]
    have : p ^ a * 2 ≤ p ^ a * p := Nat.mul_le_mul_left _ hp
    omega
theorem fin_pow {d : Nat} (h0 : 0 < d) (h : fin d = true) : d ∣ 10 ^ d := by
  obtain ⟨a, e1, _, h1⟩ := stripN_spec (p := 2) (by decide) d d (Nat.le_refl _) h0
  obtain ⟨b, e2, _, h2⟩ := stripN_spec (p := 5) (by decide) _ (stripN 2 d) (Nat.le_refl _) h1
  unfold fin at h
  rw [beq_iff_eq] at h
  rw [h, Nat.mul_one] at e2
  rw [e2] at e1
  have hb : a + b ≤ d := by
    have ha := lt_pow (p := 2) (by decide) a
    have hb := lt_pow (p := 5) (by decide) b
    have : (a + 1) * (b + 1) ≤ 2 ^ a * 5 ^ b := Nat.mul_le_mul ha hb
    rw [← e1, Nat.add_mul, Nat.mul_add] at this
    omega
  have hdvd : d ∣ 10 ^ (a + b) := by
    rw [show (10 : Nat) = 2 * 5 by rfl, Nat.mul_pow, Nat.pow_add 2 a b, Nat.pow_add 5 a b]
    refine ⟨2 ^ b * 5 ^ a, ?_⟩
    rw [e1]
    simp only [Nat.mul_assoc, Nat.mul_comm, Nat.mul_left_comm]
  exact Nat.dvd_trans hdvd (Nat.pow_dvd_pow 10 hb)
theorem dvd_of_coprime_pow {m p q k : Nat} (h : m ∣ (p * q) ^ k) (hc : Nat.Coprime m p) : m ∣ q ^ k := by
  rw [Nat.mul_pow] at h
  exact (Nat.Coprime.pow_right k hc).dvd_of_dvd_mul_left h
theorem coprime_of {m p : Nat} (hp : p = 2 ∨ p = 5) (h : m % p ≠ 0) : Nat.Coprime m p := by
  show Nat.gcd m p = 1
  have hd := Nat.gcd_dvd_right m p
  have hm := Nat.gcd_dvd_left m p
  have hle : Nat.gcd m p ≤ p := Nat.le_of_dvd (by omega) hd
  generalize Nat.gcd m p = g at *
  rcases hp with rfl | rfl
  · match g, hle with
    | 0, _ => obtain ⟨c, hc⟩ := hd; omega
    | 1, _ => rfl
    | 2, _ => exact absurd (Nat.mod_eq_zero_of_dvd hm) h
  · match g, hle with
    | 0, _ => obtain ⟨c, hc⟩ := hd; omega
    | 1, _ => rfl
    | 2, _ => exact absurd (Nat.mod_eq_zero_of_dvd hd) (by decide)
    | 3, _ => exact absurd (Nat.mod_eq_zero_of_dvd hd) (by decide)
    | 4, _ => exact absurd (Nat.mod_eq_zero_of_dvd hd) (by decide)
    | 5, _ => exact absurd (Nat.mod_eq_zero_of_dvd hm) h
theorem fin_of {d k : Nat} (h : d ∣ 10 ^ k) : fin d = true := by
  have h0 : 0 < d := Nat.pos_of_dvd_of_pos h (Nat.pow_pos (by decide))
  obtain ⟨a, e1, n1, h1⟩ := stripN_spec (p := 2) (by decide) d d (Nat.le_refl _) h0
  obtain ⟨b, e2, n2, h2⟩ := stripN_spec (p := 5) (by decide) _ (stripN 2 d) (Nat.le_refl _) h1
  have d1 : stripN 2 d ∣ (2 * 5) ^ k := Nat.dvd_trans ⟨2 ^ a, by rw [Nat.mul_comm]; exact e1⟩ h
  have d2 := dvd_of_coprime_pow d1 (coprime_of (.inl rfl) n1)
  have d5 : stripN 5 (stripN 2 d) ∣ stripN 2 d := ⟨5 ^ b, e2.trans (Nat.mul_comm _ _)⟩
  have d3 : stripN 5 (stripN 2 d) ∣ (5 * 1) ^ k := by rw [Nat.mul_one]; exact Nat.dvd_trans d5 d2
  have d4 := dvd_of_coprime_pow d3 (coprime_of (.inr rfl) n2)
  rw [Nat.one_pow] at d4
  unfold fin
  rw [beq_iff_eq]
  exact Nat.dvd_one.1 d4
/-- The digits behind the point. -/
def fracD : Nat → Nat → Nat → List UInt8
  | 0, _, _ => []
  | f + 1, r, d => if r = 0 then [] else UInt8.ofNat (48 + 10 * r / d) :: fracD f (10 * r % d) d
theorem fracD_0 (f d : Nat) : fracD f 0 d = [] := by cases f with
  | zero => rfl
  | succ f => show (if 0 = 0 then _ else _) = _; rw [if_pos rfl]
/-- One digit more. -/
theorem frac_step {f r d : Nat} (hd : d ∣ r * 10 ^ f) (hr : r < d) (h0 : r ≠ 0) : ∃ g, f = g + 1 ∧ fracD f r d = UInt8.ofNat (48 + 10 * r / d) :: fracD g (10 * r % d) d ∧ d ∣ (10 * r % d) * 10 ^ g ∧ 10 * r % d < d ∧ 10 * r / d < 10 := by
  cases f with
  | zero =>
    rw [Nat.pow_zero, Nat.mul_one] at hd
    exact absurd (Nat.le_of_dvd (by omega) hd) (by omega)
  | succ g =>
    refine ⟨g, rfl, by show (if r = 0 then _ else _) = _; rw [if_neg h0], ?_, Nat.mod_lt _ (by omega), Nat.div_lt_of_lt_mul (by omega)⟩
    have e : r * 10 ^ (g + 1) = (10 * r % d) * 10 ^ g + d * ((10 * r / d) * 10 ^ g) := by
      rw [← Nat.mul_assoc, ← Nat.add_mul, Nat.mod_add_div, Nat.pow_succ]
      rw [Nat.mul_comm (10 ^ g) 10, ← Nat.mul_assoc, Nat.mul_comm r 10]
    rw [e] at hd
    exact (Nat.dvd_add_left (Nat.dvd_mul_right d _)).1 hd
theorem frac_fuel : ∀ (f g r d : Nat), d ∣ r * 10 ^ f → d ∣ r * 10 ^ g → r < d → fracD f r d = fracD g r d
  | f, g, r, d, hf, hg, hr => by
    by_cases h0 : r = 0
    · rw [h0, fracD_0, fracD_0]
    · obtain ⟨f', rfl, e1, d1, l1, _⟩ := frac_step hf hr h0
      obtain ⟨g', rfl, e2, d2, _, _⟩ := frac_step hg hr h0
      rw [e1, e2, frac_fuel f' g' _ d d1 d2 l1]
theorem frac_scale (k : Nat) (hk : 0 < k) : ∀ (f r d : Nat), fracD f (k * r) (k * d) = fracD f r d
  | 0, r, d => rfl
  | f + 1, r, d => by
    show (if k * r = 0 then [] else _) = (if r = 0 then [] else _)
    by_cases h0 : r = 0
    · rw [if_pos (by rw [h0]; rfl), if_pos h0]
    · rw [if_neg (Nat.mul_ne_zero (by omega) h0), if_neg h0, Nat.mul_left_comm 10 k r, Nat.mul_div_mul_left _ _ hk, Nat.mul_mod_mul_left, frac_scale k hk f]
theorem frac_val : ∀ (f r d : Nat), d ∣ r * 10 ^ f → r < d → val (fracD f r d) * d = r * 10 ^ (fracD f r d).length ∧ (fracD f r d).all isDig = true
  | f, r, d, hf, hr => by
    by_cases h0 : r = 0
    · rw [h0, fracD_0, val_nil]; simp
    · obtain ⟨g, rfl, e, d1, l1, l2⟩ := frac_step hf hr h0
      obtain ⟨h1, h2⟩ := frac_val g _ d d1 l1
      rw [e, val_cons, List.length_cons, dig_toNat l2, Nat.add_sub_cancel_left, Nat.add_mul, h1, Nat.mul_right_comm, ← Nat.add_mul]
      refine ⟨?_, ?_⟩
      · rw [Nat.div_add_mod', Nat.pow_succ, Nat.mul_comm (10 ^ _) 10, ← Nat.mul_assoc, Nat.mul_comm r 10]
      · rw [List.all_cons, h2, isDig_of l2]; rfl
/-- The digits of a number of digits over the power of ten. -/
def trim0 (l : List UInt8) : List UInt8 := trimRightS l [48]
theorem drop_nil (q : UInt8 → Bool) : ∀ l : List UInt8, l.dropWhile q = [] → ∀ x ∈ l, q x = true
  | [], _, x, hx => by simp at hx
  | c :: l, h, x, hx => by
    rw [List.dropWhile_cons] at h
    split at h
    · rename_i hc
      rcases List.mem_cons.1 hx with e | e
      · rw [e]; exact hc
      · exact drop_nil q l h x e
    · cases h
theorem trim0_nil : trim0 [] = [] := rfl
theorem trim0_cons (c : UInt8) (l : List UInt8) : trim0 (c :: l) = if trim0 l = [] ∧ c = 48 then [] else c :: trim0 l := by
  unfold trim0 trimRightS
  rw [List.reverse_cons]
  by_cases h : (l.reverse.dropWhile fun x => [(48 : UInt8)].contains x) = []
  · have hall : ∀ x ∈ l.reverse, [(48 : UInt8)].contains x = true := by
      exact drop_nil _ _ h
    rw [List.dropWhile_append_of_pos hall, h]
    by_cases hc : c = 48
    · subst hc; simp
    · simp [hc]
  · obtain ⟨y, ys, hy⟩ := List.exists_cons_of_ne_nil h
    have e : (l.reverse ++ [c]).dropWhile (fun x => [(48 : UInt8)].contains x) = (l.reverse.dropWhile fun x => [(48 : UInt8)].contains x) ++ [c] := by
      rw [List.dropWhile_append]
      rw [hy]; simp
    rw [e, List.reverse_append]
    rw [if_neg]
    · rfl
    · intro hx
      rw [List.reverse_eq_nil_iff] at hx
      exact h hx.1
theorem trim0_val : ∀ l : List UInt8, l.all isDig = true → (trim0 l = [] ↔ val l = 0)
  | [], _ => by simp [trim0_nil, val_nil]
  | c :: l, h => by
    rw [List.all_cons, Bool.and_eq_true] at h
    have ih := trim0_val l h.2
    have hc := (isDig_iff c).1 h.1
    rw [trim0_cons, val_cons]
    have hp : 0 < 10 ^ l.length := Nat.pow_pos (by decide)
    constructor
    · intro e
      split at e
      · rename_i hh
        rw [hh.2, ih.1 hh.1]; simp
      · cases e
    · intro e
      have h1 : (c.toNat - 48) * 10 ^ l.length = 0 := by omega
      have h2 : val l = 0 := by omega
      have h3 : c.toNat - 48 = 0 := by
        rcases Nat.mul_eq_zero.1 h1 with h | h
        · exact h
        · omega
      rw [if_pos ⟨ih.2 h2, UInt8.toNat_inj.1 (by simp; omega)⟩]
theorem frac_digs : ∀ (f : Nat) (b : List UInt8), b.all isDig = true → b.length ≤ f → fracD f (val b) (10 ^ b.length) = trim0 b
  | f, [], _, _ => by rw [val_nil, fracD_0]; rfl
  | 0, c :: b, _, h => by simp at h
  | f + 1, c :: b, hall, h => by
    have hz := trim0_val _ hall
    show (if val (c :: b) = 0 then [] else _) = _
    by_cases h0 : val (c :: b) = 0
    · rw [if_pos h0, hz.2 h0]
    · rw [if_neg h0, trim0_cons, if_neg]
      · rw [List.all_cons, Bool.and_eq_true] at hall
        have hb := val_lt hall.2
        have hc := (isDig_iff c).1 hall.1
        rw [val_cons, List.length_cons, Nat.pow_succ, Nat.mul_comm _ 10, Nat.mul_div_mul_left _ _ (by decide), Nat.mul_mod_mul_left]
        rw [Nat.add_comm ((c.toNat - 48) * 10 ^ b.length), Nat.add_mul_div_right _ _ (Nat.pow_pos (by decide)), Nat.div_eq_of_lt hb, Nat.zero_add, Nat.add_mul_mod_self_right, Nat.mod_eq_of_lt hb, frac_scale 10 (by decide), dig_back hall.1, frac_digs f b hall.2 (by simpa using h)]
      · rintro ⟨x1, x2⟩
        have := hz.1 (by rw [trim0_cons, if_pos ⟨x1, x2⟩])
        exact h0 this
/-- The decimals of a number, or the error. -/
def decB (n d : Nat) : List UInt8 := decDigits (n / d) ++ (if n % d = 0 then [] else 46 :: fracD d (n % d) d)
def decT (q : Rat) : List UInt8 × Nat := if fin q.den then ((if q.num < 0 then [45] else []) ++ decB q.num.natAbs q.den, 0) else ([], 14)
end Go.Proofs.YtlmdpamehhcblaaGreatDoorD
/- Plain laws: what a scan gives, as a relation; tokens cover their text; normal texts. No program in sight. -/
namespace Go.Proofs.YtlmdpamehhcblaaGreatDoorD
open Go.Lib

/-- The tokens of what is left of a text, from an offset on. -/
inductive Toks : List UInt8 → Nat → List Tok → Prop
  | done (p : Nat) : Toks [] p [⟨3, [], p⟩]
  | blank {s : List UInt8} {p : Nat} {R : List Tok} (h0 : s ≠ []) (hb : cls (s.getD 0 0) = 5) (h : Toks (s.drop 1) (p + 1) R) : Toks s p R
  | tok {s : List UInt8} {p : Nat} {R : List Tok} (h0 : s ≠ []) (hb : cls (s.getD 0 0) ≠ 5) (he : (nextT s).2.2 = 0) (h : Toks (s.drop (nextT s).2.1) (p + (nextT s).2.1) R) :
      Toks s p (⟨(nextT s).1, s.take (nextT s).2.1, p⟩ :: R)
theorem Toks.ne {s : List UInt8} {p : Nat} {R : List Tok} (h : Toks s p R) : R ≠ [] := by
  induction h with
  | done p => simp
  | blank _ _ _ ih => exact ih
  | tok _ _ _ _ _ => simp
theorem scanF_toks : ∀ (f : Nat) (s : List UInt8) (p : Nat) (acc : List Tok), s.length < f → (scanF f s p acc).2.2 = 0 → ∃ R, (scanF f s p acc).1 = acc ++ R ∧ Toks s p R
  | 0, s, p, acc, h, _ => by omega
  | f + 1, s, p, acc, h, he => by
    by_cases h0 : s = []
    · subst h0
      rw [scanF_end]
      exact ⟨_, rfl, .done p⟩
    · have hl : 0 < s.length := List.length_pos_iff.2 h0
      by_cases hb : cls (s.getD 0 0) = 5
      · rw [scanF_blank h0 hb] at he ⊢
        obtain ⟨R, e, hR⟩ := scanF_toks f _ _ _ (by rw [List.length_drop]; omega) he
        exact ⟨R, e, .blank h0 hb hR⟩
      · by_cases hn : (nextT s).2.2 = 0
        · have hp := nextT_pos h0 hn
          rw [scanF_tok h0 hb hn] at he ⊢
          obtain ⟨R, e, hR⟩ := scanF_toks f _ _ _ (by rw [List.length_drop]; omega) he
          exact ⟨_ :: R, by rw [e, List.append_assoc]; rfl, .tok h0 hb hn hR⟩
        · rw [scanF_err h0 hb hn] at he
          exact absurd he hn
theorem toks_scanF {s : List UInt8} {p : Nat} {R : List Tok} (h : Toks s p R) : ∀ (f : Nat) (acc : List Tok), s.length < f → scanF f s p acc = (acc ++ R, 0, 0) := by
  induction h with
  | done p =>
    intro f acc hf
    obtain ⟨f, rfl⟩ : ∃ g, f = g + 1 := ⟨f - 1, by omega⟩
    rw [scanF_end]
  | @blank s p R h0 hb _ ih =>
    intro f acc hf
    have hl : 0 < s.length := List.length_pos_iff.2 h0
    obtain ⟨f, rfl⟩ : ∃ g, f = g + 1 := ⟨f - 1, by omega⟩
    rw [scanF_blank h0 hb, ih f acc (by rw [List.length_drop]; omega)]
  | @tok s p R h0 hb he _ ih =>
    intro f acc hf
    have hl : 0 < s.length := List.length_pos_iff.2 h0
    have hp := nextT_pos h0 he
    obtain ⟨f, rfl⟩ : ∃ g, f = g + 1 := ⟨f - 1, by omega⟩
    rw [scanF_tok h0 hb he, ih f _ (by rw [List.length_drop]; omega), List.append_assoc]
    rfl
theorem scanT_toks {s : List UInt8} (h : (scanT s).2.2 = 0) : s.length ≤ 4096 ∧ Toks s 0 (scanT s).1 ∧ scanT s = ((scanT s).1, 0, 0) := by
  unfold scanT at h ⊢
  split at h
  · cases h
  · rename_i hn
    rw [if_neg hn]
    obtain ⟨R, e, hR⟩ := scanF_toks _ s 0 [] (Nat.lt_succ_self _) h
    rw [List.nil_append] at e
    have := toks_scanF hR (s.length + 1) [] (Nat.lt_succ_self _)
    rw [this]
    exact ⟨by omega, hR, rfl⟩
theorem toks_scanT {s : List UInt8} {R : List Tok} (hl : s.length ≤ 4096) (h : Toks s 0 R) : scanT s = (R, 0, 0) := by
  unfold scanT
  rw [if_neg (by omega), toks_scanF h _ _ (Nat.lt_succ_self _)]
  rfl
/-! ### The tokens cover the text -/
/-- Are all bytes blanks? -/
def blanks (s : List UInt8) : Bool := s.all (· == 32)
theorem cls_5 {c : UInt8} (h : cls c = 5) : c = 32 := by
  unfold cls at h
  split at h
  · cases h
  · split at h
    · cases h
    · split at h
      · cases h
      · split at h
        · assumption
        · split at h <;> cases h
/-- One token after the other stands at its offset in a text, blanks between them; the end is at the end. -/
def Cov (s : List UInt8) : Nat → List Tok → Prop
  | _, [] => False
  | a, [t] => t.kind = 3 ∧ t.text = [] ∧ t.pos = (s.length : Nat) ∧ a ≤ s.length ∧ blanks (s.drop a) = true
  | a, t :: t' :: r => ∃ p : Nat, t.pos = (p : Nat) ∧ t.kind ≠ 3 ∧ t.text ≠ [] ∧ a ≤ p ∧ p + t.text.length ≤ s.length ∧ blanks ((s.drop a).take (p - a)) = true ∧ (s.drop p).take t.text.length = t.text ∧ Cov s (p + t.text.length) (t' :: r)
theorem blanks_snoc {s : List UInt8} {a p : Nat} (ha : a ≤ p) (h : blanks ((s.drop a).take (p - a)) = true) (h0 : s.drop p ≠ []) (hb : cls ((s.drop p).getD 0 0) = 5) : blanks ((s.drop a).take (p + 1 - a)) = true := by
  unfold blanks at *
  rw [show p + 1 - a = (p - a) + 1 by omega, List.take_add_one, List.all_append, h]
  have e : (s.drop a)[p - a]? = some ((s.drop p).getD 0 0) := by
    rw [List.getElem?_drop, show a + (p - a) = p by omega]
    cases hd : s.drop p with
    | nil => exact absurd hd h0
    | cons c r =>
      have := congrArg (fun l => l[0]?) hd
      simp only [List.getElem?_drop, Nat.add_zero, List.getElem?_cons_zero] at this
      rw [this]; rfl
  rw [e, cls_5 hb]
  rfl
theorem nextT_kind {s : List UInt8} (he : (nextT s).2.2 = 0) : ((nextT s).1 = 0 ∧ cls (s.getD 0 0) = 1 ∧ (nextT s).2.1 = wlen s ∧ werr (s.take (wlen s)) = 0) ∨ ((nextT s).1 = 1 ∧ cls (s.getD 0 0) = 2 ∧ (nextT s).2.1 = nlen s ∧ nerr (s.take (nlen s)) = 0) ∨ ((nextT s).1 = 2 ∧ cls (s.getD 0 0) = 4 ∧ (nextT s).2.1 = 1) := by
  unfold nextT at he ⊢
  split
  · rename_i h; rw [if_pos h] at he; exact .inl ⟨rfl, h, rfl, he⟩
  · rename_i h; rw [if_neg h] at he
    split
    · rename_i h2; rw [if_pos h2] at he; exact .inr (.inl ⟨rfl, h2, rfl, he⟩)
    · rename_i h2; rw [if_neg h2] at he
      split
      · rename_i h4; exact .inr (.inr ⟨rfl, h4, rfl⟩)
      · rename_i h4; rw [if_neg h4] at he; cases he
theorem toks_cov {s : List UInt8} {s' : List UInt8} {p : Nat} {R : List Tok} (h : Toks s' p R) : ∀ a, s' = s.drop p → p ≤ s.length → a ≤ p → blanks ((s.drop a).take (p - a)) = true → Cov s a R := by
  induction h with
  | done p =>
    intro a e hp ha hb
    have hl := congrArg List.length e
    rw [List.length_drop, List.length_nil] at hl
    have hpe : p = s.length := by omega
    subst hpe
    refine ⟨rfl, rfl, rfl, ha, ?_⟩
    rwa [List.take_of_length_le (by rw [List.length_drop]; omega)] at hb
  | @blank s' p R h0 hbl _ ih =>
    intro a e hp ha hb
    subst e
    have hl : 0 < (s.drop p).length := List.length_pos_iff.2 h0
    rw [List.length_drop] at hl
    exact ih a (by rw [List.drop_drop]) (by omega) (by omega) (blanks_snoc ha hb h0 hbl)
  | @tok s' p R h0 hbl he hR ih =>
    intro a e hp ha hb
    subst e
    have hpos := nextT_pos h0 he
    have hle := nextT_le h0
    have hk := nextT_kind he
    rw [List.length_drop] at hle
    obtain ⟨t', r, rfl⟩ := List.exists_cons_of_ne_nil hR.ne
    have hlen : ((s.drop p).take (nextT (s.drop p)).2.1).length = (nextT (s.drop p)).2.1 := by rw [List.length_take, List.length_drop]; omega
    refine ⟨p, rfl, ?_, ?_, ha, ?_, hb, ?_, ?_⟩
    · rcases hk with ⟨k, _⟩ | ⟨k, _⟩ | ⟨k, _⟩ <;> (show (nextT (s.drop p)).1 ≠ 3; rw [k]; decide)
    · intro e
      have := congrArg List.length e
      rw [hlen, List.length_nil] at this
      omega
    · show p + ((s.drop p).take _).length ≤ _
      rw [hlen]; omega
    · show (s.drop p).take ((s.drop p).take _).length = _
      rw [hlen]
    · show Cov s (p + ((s.drop p).take _).length) _
      rw [hlen]
      exact ih (p + (nextT (s.drop p)).2.1) (by rw [List.drop_drop]) (by omega) (Nat.le_refl _) (by rw [Nat.sub_self, List.take_zero]; rfl)
theorem scan_cov {s : List UInt8} (h : (scanT s).2.2 = 0) : Cov s 0 (scanT s).1 :=
  toks_cov (scanT_toks h).2.1 0 (by rw [List.drop_zero]) (Nat.zero_le _) (Nat.le_refl _) (by rw [Nat.sub_self, List.take_zero]; rfl)
/-! ### Normal texts -/
/-- A normal text, behind a token of a kind. -/
def glueR : Int → List Tok → List UInt8
  | _, [] => []
  | k, t :: r => (if apartT k t.kind = true then [32] else []) ++ (t.text ++ glueR t.kind r)
theorem glueN_R (l : List Tok) : ∀ i, i ≤ l.length → glueN l l.length = glueN l i ++ (if i = 0 then glueR 2 l else glueR (l.getD (i - 1) tok0).kind (l.drop i)) := by
  intro i hi
  generalize hm : l.length - i = m
  induction m generalizing i with
  | zero =>
    have : i = l.length := by omega
    subst this
    rw [List.drop_of_length_le (Nat.le_refl _)]
    by_cases h0 : l.length = 0
    · rw [if_pos h0, List.eq_nil_of_length_eq_zero h0]; rfl
    · rw [if_neg h0]; simp [glueR]
  | succ m ih =>
    have hlt : i < l.length := by omega
    rw [ih (i + 1) (by omega) (by omega), if_neg (by omega), Nat.add_sub_cancel]
    have hd : l.drop i = l.getD i tok0 :: l.drop (i + 1) := by
      rw [List.drop_eq_getElem_cons hlt, List.getD_eq_getElem?_getD, List.getElem?_eq_getElem hlt]; rfl
    show (glueN l i ++ ((if 0 < i ∧ apartT (l.getD (i - 1) tok0).kind (l.getD i tok0).kind = true then [32] else []) ++ (l.getD i tok0).text)) ++ _ = _
    by_cases h0 : i = 0
    · subst h0
      rw [if_pos rfl, if_neg (by simp)]
      rw [List.drop_zero] at hd
      conv => rhs; rw [hd]
      show _ = glueN l 0 ++ ((if apartT 2 _ = true then _ else _) ++ _)
      rw [if_neg (by simp [apartT])]
      simp [List.append_assoc]
    · rw [if_neg h0, hd]
      show _ = glueN l i ++ ((if apartT _ _ = true then _ else _) ++ _)
      by_cases ha : apartT (l.getD (i - 1) tok0).kind (l.getD i tok0).kind = true
      · rw [if_pos ⟨by omega, ha⟩, if_pos ha]; simp [List.append_assoc]
      · rw [if_neg (fun x => ha x.2), if_neg ha]; simp [List.append_assoc]
theorem glue_all (l : List Tok) : glueN l l.length = glueR 2 l := by
  have := glueN_R l 0 (Nat.zero_le _)
  rwa [if_pos rfl, glueN_0, List.nil_append] at this
/-- What may stand behind a token of a kind. -/
def Fol (k : Int) (s : List UInt8) : Prop := (k = 0 → s = [] ∨ ([1, 2, 3].contains (cls (s.getD 0 0))) = false) ∧ (k = 1 → s = [] ∨ cls (s.getD 0 0) ≠ 2)
theorem fol_2 (s : List UInt8) : Fol 2 s := ⟨fun h => absurd h (by decide), fun h => absurd h (by decide)⟩
theorem getD_at {s : List UInt8} {i : Nat} (h : i < s.length) : (s.drop i).getD 0 0 = s[i] := by
  rw [List.getD_eq_getElem?_getD, List.getElem?_drop, Nat.add_zero, List.getElem?_eq_getElem h]; rfl
theorem span_fol (l : List Nat) (s : List UInt8) : s.drop (spanN l s) = [] ∨ l.contains (cls ((s.drop (spanN l s)).getD 0 0)) = false := by
  rcases Nat.lt_or_ge (spanN l s) s.length with h | h
  · right; rw [getD_at h]; exact spanN_at l s h
  · left; exact List.drop_of_length_le h
theorem next_fol {s : List UInt8} (he : (nextT s).2.2 = 0) : Fol (nextT s).1 (s.drop (nextT s).2.1) := by
  rcases nextT_kind he with ⟨k, c, n, _⟩ | ⟨k, c, n, _⟩ | ⟨k, c, n⟩
  · rw [k, n]
    refine ⟨fun _ => ?_, fun h => absurd h (by decide)⟩
    unfold wlen
    rw [if_pos c]
    exact span_fol _ s
  · rw [k, n]
    refine ⟨fun h => absurd h (by decide), fun _ => ?_⟩
    have key : ∀ s : List UInt8, s.drop (nfront s) = [] ∨ cls ((s.drop (nfront s)).getD 0 0) ≠ 2 := by
      intro s
      rcases span_fol [2] s with h | h
      · exact .inl h
      · right
        intro h2
        unfold nfront at h2
        rw [h2] at h; cases h
    unfold nlen
    split
    · exact key s
    · split
      · exact key s
      · have := key (s.drop (nfront s + 1))
        rwa [List.drop_drop] at this
  · rw [k]; exact fol_2 _
theorem glue_near {k : Int} {t : Tok} (r : List Tok) (h : apartT k t.kind = false) : glueR k (t :: r) = t.text ++ glueR t.kind r := by
  show (if apartT k t.kind = true then _ else _) ++ _ = _
  rw [if_neg (by rw [h]; simp)]; rfl
theorem fol_near {k : Int} {s : List UInt8} (h0 : s ≠ []) (hf : Fol k s) (he : (nextT s).2.2 = 0) : apartT k (nextT s).1 = false := by
  unfold apartT
  rcases nextT_kind he with ⟨e, c, _⟩ | ⟨e, c, _⟩ | ⟨e, c, _⟩
  · rw [e]
    by_cases h : k = 0
    · rcases hf.1 h with h1 | h1
      · exact absurd h1 h0
      · rw [c] at h1; cases h1
    · simp [h]
  · rw [e]
    by_cases h : k = 0
    · rcases hf.1 h with h1 | h1
      · exact absurd h1 h0
      · rw [c] at h1; cases h1
    · by_cases h2 : k = 1
      · rcases hf.2 h2 with h1 | h1
        · exact absurd h1 h0
        · exact absurd c h1
      · simp [h, h2]
  · rw [e]; simp
theorem glue_2 : ∀ (R : List Tok) (k : Int), (glueR k R).length ≤ (glueR 2 R).length + 1
  | [], k => by simp [glueR]
  | t :: r, k => by
    show ((if apartT k t.kind = true then [32] else []) ++ _).length ≤ ((if apartT 2 t.kind = true then [32] else []) ++ _).length + 1
    have h2 : apartT 2 t.kind = false := by simp [apartT]
    rw [h2]
    simp only [Bool.false_eq_true, if_false]
    split <;> simp <;> omega
/-- A normal text is not longer. -/
theorem glue_len {s : List UInt8} {p : Nat} {R : List Tok} (h : Toks s p R) : ∀ k, Fol k s → (glueR k R).length ≤ s.length := by
  induction h with
  | done p =>
    intro k _
    have : apartT k 3 = false := by simp [apartT]
    rw [glue_near (t := ⟨3, [], p⟩) [] this]
    exact Nat.le_refl _
  | @blank s p R h0 hb _ ih =>
    intro k _
    have h1 := ih 2 (fol_2 _)
    have h2 := glue_2 R k
    have hl : 0 < s.length := List.length_pos_iff.2 h0
    rw [List.length_drop] at h1
    omega
  | @tok s p R h0 hb he _ ih =>
    intro k hf
    have h1 := ih _ (next_fol he)
    have hle := nextT_le h0
    rw [glue_near (t := ⟨(nextT s).1, s.take (nextT s).2.1, p⟩) R (fol_near h0 hf he), List.length_append]
    rw [List.length_drop] at h1
    show (s.take _).length + (glueR (nextT s).1 R).length ≤ _
    rw [List.length_take]
    omega
/-- A token that is right, and not the end. -/
theorem tok_form {s : List UInt8} (h0 : s ≠ []) (he : (nextT s).2.2 = 0) (p : Int) : formT ⟨(nextT s).1, s.take (nextT s).2.1, p⟩ false = 0 := by
  unfold formT
  rcases nextT_kind he with ⟨k, _, n, e⟩ | ⟨k, _, n, e⟩ | ⟨k, c, n⟩
  · dsimp only; rw [k, n, if_pos rfl, e]
  · dsimp only; rw [k, n, if_neg (by decide), if_pos rfl, e]
  · dsimp only
    rw [k, n, if_neg (by decide), if_neg (by decide), if_pos rfl, if_pos]
    obtain ⟨x, r, rfl⟩ := List.exists_cons_of_ne_nil h0
    exact ⟨rfl, c⟩
/-- A list of right tokens, the end at its end. -/
def Right : List Tok → Prop
  | [] => False
  | [t] => t.kind = 3 ∧ t.text = []
  | t :: t' :: r => formT t false = 0 ∧ (t.kind = 0 ∨ t.kind = 1 ∨ t.kind = 2) ∧ Right (t' :: r)
theorem toks_right {s : List UInt8} {p : Nat} {R : List Tok} (h : Toks s p R) : Right R := by
  induction h with
  | done p => exact ⟨rfl, rfl⟩
  | blank _ _ _ ih => exact ih
  | @tok s p R h0 _ he hR ih =>
    obtain ⟨t', r, rfl⟩ := List.exists_cons_of_ne_nil hR.ne
    refine ⟨tok_form h0 he _, ?_, ih⟩
    rcases nextT_kind he with ⟨k, _⟩ | ⟨k, _⟩ | ⟨k, _⟩
    · exact .inl k
    · exact .inr (.inl k)
    · exact .inr (.inr k)
/-- What is read again, behind what stands. -/
theorem span_app (l : List Nat) (s r : List UInt8) (h : spanN l s = s.length) (hr : r = [] ∨ l.contains (cls (r.getD 0 0)) = false) : spanN l (s ++ r) = s.length := by
  refine spanN_eq _ _ _ (by simp) (fun j hj => ?_) (fun hj => ?_)
  · rw [List.getElem_append_left hj]
    exact (spanN_in l s j (by omega)).2
  · rcases hr with rfl | hr
    · simp at hj
    · cases r with
      | nil => simp at hj
      | cons c r =>
        simp only [List.getElem_append_right (Nat.le_refl _), Nat.sub_self, List.getElem_cons_zero]
        exact hr
theorem getD_app {s : List UInt8} (r : List UInt8) (h : s ≠ []) : (s ++ r).getD 0 0 = s.getD 0 0 := by
  cases s with
  | nil => exact absurd rfl h
  | cons c s => rfl
/-- What may stand behind a token in a normal text. -/
def Nex (k : Int) (r : List UInt8) : Prop := r = [] ∨ (cls (r.getD 0 0) = 4 ∨ cls (r.getD 0 0) = 5 ∨ (k ≠ 0 ∧ cls (r.getD 0 0) = 1))
theorem next_again {t : Tok} {r : List UInt8} (hf : formT t false = 0) (hk : t.kind = 0 ∨ t.kind = 1 ∨ t.kind = 2) (hr : t.kind = 2 ∨ Nex t.kind r) : t.text ≠ [] ∧ nextT (t.text ++ r) = (t.kind, t.text.length, 0) ∧ cls ((t.text ++ r).getD 0 0) ≠ 5 := by
  obtain ⟨k, s, p⟩ := t
  dsimp only at *
  unfold formT at hf
  dsimp only at hf
  rcases hk with rfl | rfl | rfl
  · rw [if_pos rfl] at hf
    have hx := hf
    unfold werr at hf
    split at hf
    · cases hf
    · rename_i hn
      simp only [not_or, ne_eq, Decidable.not_not] at hn
      obtain ⟨n0, n1⟩ := hn
      have hp : 0 < s.length := List.length_pos_iff.2 n0
      have hc : cls (s.getD 0 0) = 1 := by
        unfold wlen at n1
        split at n1
        · assumption
        · omega
      have hsp : spanN [1, 2, 3] s = s.length := by unfold wlen at n1; rwa [if_pos hc] at n1
      have h2 : spanN [1, 2, 3] (s ++ r) = s.length := by
        refine span_app _ _ _ hsp ?_
        rcases hr with hr | hr
        · cases hr
        · rcases hr with hr | hr | hr | hr
          · exact .inl hr
          · right; rw [hr]; rfl
          · right; rw [hr]; rfl
          · exact absurd rfl hr.1
      have hw : wlen (s ++ r) = s.length := by unfold wlen; rw [getD_app r n0, if_pos hc, h2]
      refine ⟨n0, ?_, by rw [getD_app r n0, hc]; decide⟩
      unfold nextT
      rw [getD_app r n0, if_pos hc, hw, List.take_left, hx]
  · rw [if_neg (by decide), if_pos rfl] at hf
    obtain ⟨a, b, ha, hb, a0, a1, _, _, hs, _⟩ := nerr_parts hf
    have hap : 0 < a.length := List.length_pos_iff.2 a0
    have n0 : s ≠ [] := by
      rcases hs with ⟨_, rfl⟩ | ⟨_, rfl⟩
      · exact a0
      · simp
    have hc : cls (s.getD 0 0) = 2 := by
      have : s.getD 0 0 = a.getD 0 0 := by
        rcases hs with ⟨_, rfl⟩ | ⟨_, rfl⟩
        · rfl
        · exact getD_app _ a0
      rw [this]
      obtain ⟨x, a', rfl⟩ := List.exists_cons_of_ne_nil a0
      rw [List.all_cons, Bool.and_eq_true] at ha
      exact isDig_cls ha.1
    have hrd : ∀ c q, r = c :: q → isDig c = false ∧ c ≠ 46 := by
      rintro c q rfl
      have hx : cls c = 4 ∨ cls c = 5 ∨ cls c = 1 := by
        rcases hr with hr | hr
        · cases hr
        · rcases hr with hr | hr | hr | hr
          · cases hr
          · exact .inl hr
          · exact .inr (.inl hr)
          · exact .inr (.inr hr.2)
      constructor
      · cases hd : isDig c with
        | false => rfl
        | true => have := isDig_cls hd; omega
      · rintro rfl
        have : cls 46 = 0 := by decide
        omega
    have hn : nlen (s ++ r) = s.length := by
      unfold nlen
      rcases hs with ⟨_, rfl⟩ | ⟨b0, rfl⟩
      · rw [digs_span ha (fun c q e => (hrd c q e).1), if_pos]
        rcases r with _ | ⟨c, q⟩
        · right; left; simp
        · right; right
          rw [List.getD_eq_getElem?_getD, List.getElem?_append_right (Nat.le_refl _), Nat.sub_self]
          exact (hrd c q rfl).2
      · have hbp : 0 < b.length := List.length_pos_iff.2 b0
        rw [List.append_assoc]
        have e1 : nfront (a ++ (46 :: b ++ r)) = a.length := digs_span ha (fun c q e => by cases e; rfl)
        have e2 : (a ++ (46 :: b ++ r)).drop (a.length + 1) = b ++ r := by
          rw [show a ++ (46 :: b ++ r) = (a ++ [46]) ++ (b ++ r) by simp]
          exact List.drop_left' (by simp)
        rw [e1, e2, digs_span hb (fun c q e => (hrd c q e).1), if_neg, if_neg (by omega)]
        · simp; omega
        · simp only [not_or, Nat.not_le, ne_eq, Decidable.not_not]
          refine ⟨by omega, by simp; omega, ?_⟩
          rw [List.getD_eq_getElem?_getD, List.getElem?_append_right (Nat.le_refl _), Nat.sub_self]; rfl
    refine ⟨n0, ?_, by rw [getD_app r n0, hc]; decide⟩
    unfold nextT
    rw [getD_app r n0, if_neg (by rw [hc]; decide), if_pos hc, hn, List.take_left, hf]
  · rw [if_neg (by decide), if_neg (by decide), if_pos rfl] at hf
    split at hf
    · rename_i h
      obtain ⟨x, s', rfl⟩ := List.exists_cons_of_ne_nil (show s ≠ [] by intro e; rw [e] at h; simp at h)
      have hs' : s' = [] := List.eq_nil_of_length_eq_zero (by simpa using h.1)
      subst hs'
      have hc : cls x = 4 := h.2
      refine ⟨by simp, ?_, ?_⟩
      · unfold nextT
        show (if cls x = 1 then _ else _) = _
        rw [if_neg (by omega), if_neg (by show ¬ cls x = 2; omega), if_pos (by exact hc)]; rfl
      · show cls x ≠ 5; omega
    · cases hf
/-- The same tokens, but for their offsets. -/
def Alike (a b : List Tok) : Prop := a.map (fun t => (t.kind, t.text)) = b.map (fun t => (t.kind, t.text))
/-- The normal text has the same tokens. -/
theorem glue_toks : ∀ (R : List Tok), Right R → ∀ (k : Int) (p : Nat), ∃ M, Toks (glueR k R) p M ∧ Alike M R
  | [], h, _, _ => h.elim
  | [t], h, k, p => by
    obtain ⟨tk, ts, tp⟩ := t
    obtain ⟨h1, h2⟩ := h
    dsimp only at h1 h2
    subst h1 h2
    have : apartT k 3 = false := by simp [apartT]
    rw [glue_near (t := ⟨3, [], tp⟩) [] this]
    exact ⟨[⟨3, [], p⟩], .done p, rfl⟩
  | t :: t' :: r, h, k, p => by
    obtain ⟨hf, hk, hR⟩ := h
    have key : ∀ p, ∃ M, Toks (t.text ++ glueR t.kind (t' :: r)) p M ∧ Alike M (t :: t' :: r) := by
      intro p
      have hnx : t.kind = 2 ∨ Nex t.kind (glueR t.kind (t' :: r)) := by
        by_cases ha : apartT t.kind t'.kind = true
        · right; right; right; left
          show cls (((if apartT t.kind t'.kind = true then [32] else []) ++ _ : List UInt8).getD 0 0) = 5
          rw [if_pos ha]; rfl
        · have ha' : apartT t.kind t'.kind = false := by simpa using ha
          rw [glue_near r ha']
          rcases r with _ | ⟨t'', r'⟩
          · obtain ⟨k3, s0⟩ := hR
            right; left
            rw [s0]; rfl
          · obtain ⟨hf', hk', _⟩ := hR
            rcases hk with hk0 | hk1 | hk2
            · right; right; left
              rw [hk0] at ha'
              have k2 : t'.kind = 2 := by
                rcases hk' with h | h | h
                · rw [h] at ha'; cases ha'
                · rw [h] at ha'; cases ha'
                · exact h
              obtain ⟨n0, hn, _⟩ := next_again (r := []) hf' (.inr (.inr k2)) (.inl k2)
              rw [getD_app _ n0]
              rw [List.append_nil] at hn
              rcases nextT_kind (s := t'.text) (by rw [hn]) with ⟨e, _⟩ | ⟨e, _⟩ | ⟨_, c, _⟩
              · rw [hn] at e; dsimp only at e; rw [k2] at e; cases e
              · rw [hn] at e; dsimp only at e; rw [k2] at e; cases e
              · exact c
            · right; right
              rw [hk1] at ha' ⊢
              have kk : t'.kind = 2 ∨ t'.kind = 0 := by
                rcases hk' with h | h | h
                · exact .inr h
                · rw [h] at ha'; cases ha'
                · exact .inl h
              obtain ⟨n0, hn, _⟩ := next_again (r := []) hf' hk' (.inr (.inl rfl))
              rw [getD_app _ n0]
              rw [List.append_nil] at hn
              rcases nextT_kind (s := t'.text) (by rw [hn]) with ⟨_, c, _⟩ | ⟨e, _⟩ | ⟨_, c, _⟩
              · exact .inr (.inr ⟨by decide, c⟩)
              · rw [hn] at e; dsimp only at e; rw [e] at kk; rcases kk with h | h <;> cases h
              · exact .inl c
            · exact .inl hk2
      obtain ⟨n0, hn, hb⟩ := next_again hf hk hnx
      obtain ⟨M, hM, hal⟩ := glue_toks (t' :: r) hR t.kind (p + t.text.length)
      have h1 := Toks.tok (s := t.text ++ glueR t.kind (t' :: r)) (p := p) (R := M) (by simp [n0]) hb (by rw [hn]) (by rw [hn]; dsimp only; rw [List.drop_left]; exact hM)
      rw [hn] at h1
      dsimp only at h1
      rw [List.take_left] at h1
      refine ⟨_, h1, ?_⟩
      unfold Alike at *
      rw [List.map_cons, List.map_cons, hal]
    by_cases ha : apartT k t.kind = true
    · obtain ⟨M, hM, hal⟩ := key (p + 1)
      refine ⟨M, ?_, hal⟩
      show Toks ((if apartT k t.kind = true then [32] else []) ++ _) p M
      rw [if_pos ha]
      exact .blank (by simp) (by rfl) hM
    · obtain ⟨M, hM, hal⟩ := key p
      rw [glue_near _ (by simpa using ha)]
      exact ⟨M, hM, hal⟩
theorem alike_len {a b : List Tok} (h : Alike a b) : a.length = b.length := by
  have := congrArg List.length h
  simpa using this
theorem alike_at {a b : List Tok} (h : Alike a b) (i : Nat) : (a.getD i tok0).kind = (b.getD i tok0).kind ∧ (a.getD i tok0).text = (b.getD i tok0).text := by
  have h2 := congrArg (fun l : List (Int × List UInt8) => l[i]?) h
  simp only [List.getElem?_map] at h2
  rw [List.getD_eq_getElem?_getD, List.getD_eq_getElem?_getD]
  cases ha : a[i]? with
  | none =>
    cases hb : b[i]? with
    | none => exact ⟨rfl, rfl⟩
    | some y => rw [ha, hb] at h2; cases h2
  | some x =>
    cases hb : b[i]? with
    | none => rw [ha, hb] at h2; cases h2
    | some y =>
      rw [ha, hb] at h2
      simp only [Option.map_some, Option.some.injEq, Prod.mk.injEq] at h2
      exact h2
theorem form_alike {t u : Tok} (h1 : t.kind = u.kind) (h2 : t.text = u.text) (b : Bool) : formT t b = formT u b := by
  unfold formT; rw [h1, h2]
theorem ferr_right : ∀ (l : List Tok), (∀ i, i < l.length → formT (l.getD i tok0) (decide (i + 1 = l.length)) = 0) → ∀ f i, i + f = l.length → ferrF l f i = 0
  | l, h, 0, i, _ => rfl
  | l, h, f + 1, i, e => by
    show (if formT (l.getD i tok0) (decide (i + 1 = l.length)) ≠ 0 then _ else _) = _
    rw [if_neg (by rw [h i (by omega)]; simp)]
    exact ferr_right l h f (i + 1) (by omega)
theorem right_form : ∀ (l : List Tok), Right l → ∀ i, i < l.length → formT (l.getD i tok0) (decide (i + 1 = l.length)) = 0
  | [], h, _, _ => h.elim
  | [t], h, 0, _ => by
    show formT t true = 0
    obtain ⟨h1, h2⟩ := h
    unfold formT
    rw [h1, h2]; rfl
  | [t], h, i + 1, hi => by simp at hi
  | t :: t' :: r, h, 0, _ => by
    show formT t (decide (0 + 1 = (t :: t' :: r).length)) = 0
    rw [decide_eq_false (by simp)]
    exact h.1
  | t :: t' :: r, h, i + 1, hi => by
    have := right_form (t' :: r) h.2.2 i (by simpa using hi)
    rw [List.getD_cons_succ]
    rw [show decide (i + 1 + 1 = (t :: t' :: r).length) = decide (i + 1 = (t' :: r).length) by simp]
    exact this
theorem join_right {l : List Tok} (h : Right l) (hl : l.length ≤ 4097) (hg : (glueR 2 l).length ≤ 4096) : joinT l = (glueR 2 l, 0) := by
  unfold joinT
  rw [if_neg (by omega), ferr_right l (right_form l h) _ _ (by omega), if_neg (by simp), glue_all, if_neg (by omega)]
theorem right_alike : ∀ {a b : List Tok}, Alike a b → Right b → Right a
  | [], [], _, h => h.elim
  | [], _ :: _, h, _ => by cases h
  | _ :: _, [], h, _ => by cases h
  | [t], [u], h, hR => by
    have := alike_at h 0
    exact ⟨this.1.trans hR.1, this.2.trans hR.2⟩
  | [t], u :: u' :: r, h, _ => by have := alike_len h; simp at this
  | t :: t' :: q, [u], h, _ => by have := alike_len h; simp at this
  | t :: t' :: q, u :: u' :: r, h, hR => by
    have h0 := alike_at h 0
    have k0 : t.kind = u.kind := h0.1
    have k1 : t.text = u.text := h0.2
    refine ⟨by rw [form_alike k0 k1]; exact hR.1, by rw [k0]; exact hR.2.1, right_alike (b := u' :: r) ?_ hR.2.2⟩
    unfold Alike at h ⊢
    rw [List.map_cons, List.map_cons] at h
    exact (List.cons.injEq .. ▸ h).2
theorem glue_alike : ∀ {a b : List Tok}, Alike a b → ∀ k, glueR k a = glueR k b
  | [], [], _, _ => rfl
  | [], _ :: _, h, _ => by cases h
  | _ :: _, [], h, _ => by cases h
  | t :: a, u :: b, h, k => by
    have h0 := alike_at h 0
    have k0 : t.kind = u.kind := h0.1
    have k1 : t.text = u.text := h0.2
    have h2 : Alike a b := by
      unfold Alike at h ⊢
      rw [List.map_cons, List.map_cons] at h
      exact (List.cons.injEq .. ▸ h).2
    show (if apartT k t.kind = true then _ else _) ++ (t.text ++ glueR t.kind a) = (if apartT k u.kind = true then _ else _) ++ (u.text ++ glueR u.kind b)
    rw [k0, k1, glue_alike h2]
/-- The law on normal texts. -/
theorem normal_law {s : List UInt8} (h : (scanT s).2.2 = 0) : ∃ J M, normT s = (J, 0, 0) ∧ J.length ≤ s.length ∧ scanT J = (M, 0, 0) ∧ Alike M (scanT s).1 ∧ normT J = (J, 0, 0) := by
  obtain ⟨hl, hT, _⟩ := scanT_toks h
  have hlen := scanT_len s
  have hR := toks_right hT
  have hg := glue_len hT 2 (fol_2 _)
  have hj := join_right hR hlen (by omega)
  obtain ⟨M, hM, hal⟩ := glue_toks _ hR 2 0
  have hsJ := toks_scanT (by omega) hM
  refine ⟨glueR 2 (scanT s).1, M, ?_, hg, hsJ, hal, ?_⟩
  · unfold normT; rw [if_neg (by rw [h]; simp), hj]
  · unfold normT
    rw [hsJ, if_neg (by simp)]
    have hRM := right_alike hal hR
    have := join_right hRM (by rw [alike_len hal]; exact hlen) (by rw [glue_alike hal]; omega)
    rw [glue_alike hal] at this
    show ((joinT M).1, 0, (joinT M).2) = _
    rw [this]
end Go.Proofs.YtlmdpamehhcblaaGreatDoorD
/- Plain laws: the decimals of the value of a text, the value of the decimals of a number. No program in sight. -/
namespace Go.Proofs.YtlmdpamehhcblaaGreatDoorD
open Go.Lib

theorem nat_of_mk {N D g n d : Nat} (hg : g = Nat.gcd N D) (hn : n = N / g) (hd : d = D / g) (hD : 0 < D) : 0 < g ∧ N = g * n ∧ D = g * d ∧ 0 < d := by
  have h0 : 0 < g := by rw [hg]; exact Nat.gcd_pos_of_pos_right _ hD
  have h1 : g ∣ N := by rw [hg]; exact Nat.gcd_dvd_left _ _
  have h2 : g ∣ D := by rw [hg]; exact Nat.gcd_dvd_right _ _
  refine ⟨h0, by rw [hn, Nat.mul_div_cancel' h1], by rw [hd, Nat.mul_div_cancel' h2], ?_⟩
  rw [hd]; exact Nat.div_pos (Nat.le_of_dvd hD h2) h0
theorem mk_parts (N D : Nat) (hD : 0 < D) : (mkRat N D).num = ((N / Nat.gcd N D : Nat) : Int) ∧ (mkRat N D).den = D / Nat.gcd N D := by
  rw [mkRat_num _ _ (by omega), mkRat_den _ _ (by omega)]
  have : Int.gcd (N : Int) (D : Int) = Nat.gcd N D := rfl
  rw [this]
  exact ⟨rfl, rfl⟩
theorem decB_mk (a b : List UInt8) (ha : natural a = true) (hb : b.all isDig = true) (n d : Nat) (g : Nat) (hg : 0 < g) (hN : val (a ++ b) = g * n) (hD : 10 ^ b.length = g * d) : decB n d = a ++ (if trim0 b = [] then [] else 46 :: trim0 b) := by
  have hpos : 0 < 10 ^ b.length := Nat.pow_pos (by decide)
  have hd0 : 0 < d := by
    rcases Nat.eq_zero_or_pos d with h | h
    · rw [h] at hD; omega
    · exact h
  have hlt := val_lt hb
  rw [val_append] at hN
  have hq : n / d = val a := by
    have h1 : (g * n) / (g * d) = n / d := Nat.mul_div_mul_left _ _ hg
    rw [← h1, ← hN, ← hD, Nat.add_comm, Nat.add_mul_div_right _ _ hpos, Nat.div_eq_of_lt hlt, Nat.zero_add]
  have hr : g * (n % d) = val b := by
    rw [← Nat.mul_mod_mul_left, ← hN, ← hD, Nat.add_comm, Nat.add_mul_mod_self_right, Nat.mod_eq_of_lt hlt]
  have hdv : d ∣ 10 ^ b.length := ⟨g, by rw [hD, Nat.mul_comm]⟩
  have hfin := fin_of hdv
  have hrd : n % d < d := Nat.mod_lt _ hd0
  unfold decB
  rw [hq, decDigits_val ha]
  congr 1
  by_cases h0 : n % d = 0
  · rw [if_pos h0, if_pos]
    rw [trim0_val b hb, ← hr, h0, Nat.mul_zero]
  · have hz : trim0 b ≠ [] := by
      intro e
      rw [trim0_val b hb, ← hr] at e
      rcases Nat.mul_eq_zero.1 e with h | h
      · omega
      · exact h0 h
    rw [if_neg h0, if_neg hz]
    congr 1
    rw [frac_fuel d b.length (n % d) d (Nat.dvd_trans (fin_pow hd0 hfin) (Nat.dvd_mul_left _ _)) (Nat.dvd_trans hdv (Nat.dvd_mul_left _ _)) hrd, ← frac_scale g hg, hr, ← hD, frac_digs _ _ hb (Nat.le_refl _)]
theorem natural_of {a : List UInt8} (ha : a.all isDig = true) (h0 : a ≠ []) (h1 : a.length = 1 ∨ a.head? ≠ some 48) : natural a = true := by
  unfold natural
  simp only [Bool.and_eq_true, Bool.or_eq_true]
  refine ⟨⟨by simpa using h0, ha⟩, ?_⟩
  rcases h1 with h | h
  · left; simp [h]
  · right; simpa using h
/-- A number's text without the zeros at its end. -/
def dtrim (s : List UInt8) : List UInt8 := vfront s ++ (if trim0 (vback s) = [] then [] else 46 :: trim0 (vback s))
theorem val_pos (s : List UInt8) : 0 ≤ (valT s).num := by
  unfold valT
  rw [(mk_parts _ _ (Nat.pow_pos (by decide))).1]
  exact Int.natCast_nonneg _
/-- The decimals of the value of a right number. -/
theorem dec_val {s : List UInt8} (h : nerr s = 0) : decT (valT s) = (dtrim s, 0) := by
  obtain ⟨a, b, ha, hb, a0, a1, hf, hbk, hs, hl⟩ := nerr_parts h
  have hpow : 0 < 10 ^ b.length := Nat.pow_pos (by decide)
  obtain ⟨m1, m2⟩ := mk_parts (val (a ++ b)) (10 ^ b.length) hpow
  obtain ⟨hg, hN, hD, hd⟩ := nat_of_mk (N := val (a ++ b)) (D := 10 ^ b.length) rfl rfl rfl hpow
  have e : valT s = mkRat (val (a ++ b)) (10 ^ b.length) := by unfold valT; rw [hf, hbk]
  have hdv : (10 ^ b.length / Nat.gcd (val (a ++ b)) (10 ^ b.length)) ∣ 10 ^ b.length := Nat.div_dvd_of_dvd (Nat.gcd_dvd_right _ _)
  have hn : (mkRat (val (a ++ b)) (10 ^ b.length)).num.natAbs = val (a ++ b) / Nat.gcd (val (a ++ b)) (10 ^ b.length) := by rw [m1]; rfl
  have hsg : ¬ (mkRat (val (a ++ b)) (10 ^ b.length)).num < 0 := by rw [m1]; omega
  unfold decT
  rw [e, if_neg hsg, hn, m2, fin_of hdv, if_pos rfl, decB_mk a b (natural_of ha a0 a1) hb _ _ _ hg hN hD]
  unfold dtrim
  rw [hf, hbk]
  rfl
/-- The value of the decimals of a number. -/
theorem val_dec {n d : Nat} (hd : 0 < d) (hf : fin d = true) (hl : (decB n d).length ≤ 24) : nerr (decB n d) = 0 ∧ valT (decB n d) = mkRat n d := by
  have hfr := frac_val d (n % d) d (Nat.dvd_trans (fin_pow hd hf) (Nat.dvd_mul_left _ _)) (Nat.mod_lt _ hd)
  have hb0 : n % d = 0 ↔ fracD d (n % d) d = [] := by
    constructor
    · intro h; rw [h, fracD_0]
    · intro h
      rcases Nat.eq_zero_or_pos (n % d) with h0 | h0
      · exact h0
      · obtain ⟨g, _, e, _⟩ := frac_step (f := d) (Nat.dvd_trans (fin_pow hd hf) (Nat.dvd_mul_left _ (n % d))) (Nat.mod_lt n hd) (by omega)
        rw [e] at h; cases h
  have ha := natural_decDigits (n / d)
  have ha2 := decDigits_all (n / d)
  have hh : (decDigits (n / d)).length = 1 ∨ (decDigits (n / d)).head? ≠ some 48 := by
    unfold natural at ha
    simp only [Bool.and_eq_true, Bool.or_eq_true] at ha
    rcases ha.2 with h | h
    · left; simpa using h
    · right; simpa using h
  have hs : (fracD d (n % d) d = [] ∧ decB n d = decDigits (n / d)) ∨ (fracD d (n % d) d ≠ [] ∧ decB n d = decDigits (n / d) ++ 46 :: fracD d (n % d) d) := by
    unfold decB
    by_cases h0 : n % d = 0
    · rw [if_pos h0, List.append_nil]; exact .inl ⟨hb0.1 h0, rfl⟩
    · rw [if_neg h0]; exact .inr ⟨fun x => h0 (hb0.2 x), rfl⟩
  refine ⟨nerr_of ha2 hfr.2 (decDigits_ne _) hh _ hs hl, ?_⟩
  have hv : vfront (decB n d) = decDigits (n / d) ∧ vback (decB n d) = fracD d (n % d) d := by
    unfold vfront vback
    rcases hs with ⟨h1, h2⟩ | ⟨h1, h2⟩
    · rw [h2, h1, cutc_none (dig_no46 ha2)]; exact ⟨rfl, rfl⟩
    · rw [h2, cutc_some (dig_no46 ha2)]; exact ⟨rfl, rfl⟩
  unfold valT
  rw [hv.1, hv.2, val_append, val_decDigits]
  have hp : 10 ^ (fracD d (n % d) d).length ≠ 0 := Nat.pos_iff_ne_zero.1 (Nat.pow_pos (by decide))
  rw [Rat.mkRat_eq_iff hp (by omega)]
  have key : (n / d * 10 ^ (fracD d (n % d) d).length + val (fracD d (n % d) d)) * d = n * 10 ^ (fracD d (n % d) d).length := by
    rw [Nat.add_mul, hfr.1, Nat.mul_right_comm, ← Nat.add_mul, Nat.div_add_mod']
  exact_mod_cast key
theorem mk_abs (q : Rat) : mkRat (q.num.natAbs : Int) q.den = if q.num < 0 then -q else q := by
  split
  · rename_i h
    rw [show (q.num.natAbs : Int) = -q.num by omega, ← Rat.neg_mkRat, Rat.mkRat_self]
  · rename_i h
    rw [show (q.num.natAbs : Int) = q.num by omega, Rat.mkRat_self]
/-- What Go's text says: without the zeros, and without the point. -/
theorem trim0_last : ∀ (l : List UInt8), l.all isDig = true → trim0 l ≠ [] → ∃ r c, trim0 l = r ++ [c] ∧ c ≠ 48 ∧ isDig c = true
  | [], _, h => absurd trim0_nil h
  | c :: l, ha, h => by
    rw [List.all_cons, Bool.and_eq_true] at ha
    rw [trim0_cons] at h ⊢
    by_cases hc : trim0 l = [] ∧ c = 48
    · rw [if_pos hc] at h; exact absurd rfl h
    · rw [if_neg hc]
      by_cases hl : trim0 l = []
      · rw [hl]
        exact ⟨[], c, rfl, fun e => hc ⟨hl, e⟩, ha.1⟩
      · obtain ⟨r, x, e, h1, h2⟩ := trim0_last l ha.2 hl
        exact ⟨c :: r, x, by rw [e]; rfl, h1, h2⟩
theorem trim0_app (a b : List UInt8) (h : b ≠ []) (hb : trim0 b = b) : trim0 (a ++ b) = a ++ b := by
  induction a with
  | nil => exact hb
  | cons c a ih =>
    rw [List.cons_append, trim0_cons, ih, if_neg]
    rintro ⟨h1, _⟩
    have := congrArg List.length h1
    have hp : 0 < b.length := List.length_pos_iff.2 h
    rw [List.length_append, List.length_nil] at this
    omega
theorem trim0_idem : ∀ l : List UInt8, trim0 (trim0 l) = trim0 l
  | [] => by rw [trim0_nil, trim0_nil]
  | c :: l => by
    rw [trim0_cons]
    split
    · exact trim0_nil
    · rename_i h
      rw [trim0_cons, trim0_idem l, if_neg h]
theorem trim0_any (a b : List UInt8) : trim0 (a ++ b) = if trim0 b = [] then trim0 a else a ++ trim0 b := by
  induction a with
  | nil =>
    rw [List.nil_append]
    split
    · rename_i h; rw [h, trim0_nil]
    · rfl
  | cons c a ih =>
    rw [List.cons_append, trim0_cons, ih]
    split
    · rw [trim0_cons]
    · rename_i h
      rw [if_neg (fun x => by have := x.1; simp at this; exact h this.2)]; rfl
/-- The text that the law makes of a number's text. -/
def lawtrim (s : List UInt8) : List UInt8 := if contains s [46] then trimSuffix (trimRightS s [48]) [46] else s
theorem contains_46 (s : List UInt8) : contains s [46] = decide (46 ∈ s) := by
  unfold contains
  by_cases h : (46 : UInt8) ∈ s
  · rw [decide_eq_true h, decide_eq_true ((index_mem 46 s).1 h).1]
  · rw [decide_eq_false h, (index_mem 46 s).2 h]; rfl
theorem lawtrim_eq {s : List UInt8} (h : nerr s = 0) : lawtrim s = dtrim s := by
  obtain ⟨a, b, ha, hb, a0, a1, hf, hbk, hs, hl⟩ := nerr_parts h
  unfold lawtrim dtrim
  rw [hf, hbk, contains_46]
  rcases hs with ⟨rfl, rfl⟩ | ⟨b0, rfl⟩
  · rw [decide_eq_false (dig_no46 ha), if_neg (by simp), trim0_nil, if_pos rfl, List.append_nil]
  · rw [decide_eq_true (by simp), if_pos rfl]
    have e : trimRightS (a ++ 46 :: b) [48] = a ++ 46 :: trim0 b := by
      show trim0 (a ++ 46 :: b) = _
      have h1 : trim0 (46 :: b) = 46 :: trim0 b := by rw [trim0_cons, if_neg (fun x => absurd x.2 (by decide))]
      rw [trim0_any, h1, if_neg (by simp)]
    rw [e]
    by_cases hz : trim0 b = []
    · rw [hz, if_pos rfl, List.append_nil]
      unfold trimSuffix hasSuffix
      rw [if_pos (by rw [List.isSuffixOf_iff_suffix]; exact List.suffix_append _ _)]
      simp
    · rw [if_neg hz]
      obtain ⟨r, c, e2, c1, c2⟩ := trim0_last b hb hz
      unfold trimSuffix hasSuffix
      rw [if_neg]
      rw [List.isSuffixOf_iff_suffix]
      rintro ⟨x, hx⟩
      rw [e2, ← List.cons_append, ← List.append_assoc] at hx
      have := (List.append_inj' hx rfl).2
      simp only [List.cons.injEq, and_true] at this
      subst this
      simp [isDig] at c2
end Go.Proofs.YtlmdpamehhcblaaGreatDoorD
/- Plain laws: tokens parted by a sign. No program in sight. -/
namespace Go.Proofs.YtlmdpamehhcblaaGreatDoorD
open Go.Lib

/-- Is a token a sign? -/
def isT (t : Tok) (g : List UInt8) : Bool := t.kind == 2 && t.text == g
/-- Tokens with one more in the last part. -/
def addL : List (List Tok) → Tok → List (List Tok)
  | [], _ => []
  | [x], t => [x ++ [t]]
  | x :: y :: r, t => x :: addL (y :: r) t
theorem addL_ne {o : List (List Tok)} (t : Tok) (h : o ≠ []) : addL o t ≠ [] := by
  match o, h with
  | [x], _ => simp [addL]
  | x :: y :: r, _ => simp [addL]
theorem addL_snoc (o : List (List Tok)) (x : List Tok) (t : Tok) : addL (o ++ [x]) t = o ++ [x ++ [t]] := by
  induction o with
  | nil => rfl
  | cons y o ih =>
    cases o with
    | nil => rfl
    | cons z o => show y :: addL (z :: o ++ [x]) t = _; rw [ih]; rfl
/-- The parts of tokens, behind those that are there; the brackets that are open. -/
def partF (g : List UInt8) : List Tok → List (List UInt8) → List (List Tok) → List (List Tok) × Nat
  | [], op, out => if op = [] then (out, 0) else ([], 3)
  | t :: r, op, out =>
    if op = [] ∧ isT t g = true then partF g r op (out ++ [[]])
    else if isT t [40] = true then partF g r (op ++ [[41]]) (addL out t)
    else if isT t [91] = true then partF g r (op ++ [[93]]) (addL out t)
    else if isT t [41] = true ∨ isT t [93] = true then (if op = [] ∨ op.getLast? ≠ some t.text then ([], 3) else partF g r op.dropLast (addL out t))
    else partF g r op (addL out t)
/-- Tokens without an end at the end. -/
def cutEnd (l : List Tok) : List Tok := if 0 < l.length ∧ (l.getD (l.length - 1) tok0).kind = 3 then l.take (l.length - 1) else l
/-- Is a text a sign by which tokens are parted? -/
def parter (g : List UInt8) : Bool := g.length == 1 && cls (g.getD 0 0) == 4 && !(g == [40] || g == [41] || g == [91] || g == [93])
def partT (l : List Tok) (g : List UInt8) : List (List Tok) × Nat :=
  if 4097 < l.length then ([], 5) else if parter g = false then ([], 1) else partF g (cutEnd l) [] [[]]
/-- The texts of parts, joined by a sign. -/
def backR (g : List UInt8) : List (List Tok) → List (List UInt8)
  | [] => []
  | [x] => x.map (·.text)
  | x :: y :: r => x.map (·.text) ++ g :: backR g (y :: r)
theorem backR_add (g : List UInt8) : ∀ (o : List (List Tok)) (t : Tok), o ≠ [] → backR g (addL o t) = backR g o ++ [t.text]
  | [x], t, _ => by simp [addL, backR]
  | x :: y :: r, t, _ => by
    have ih := backR_add g (y :: r) t (by simp)
    have hne := addL_ne t (show y :: r ≠ [] by simp)
    obtain ⟨z, q, hz⟩ := List.exists_cons_of_ne_nil hne
    show backR g (x :: addL (y :: r) t) = _
    rw [hz] at ih ⊢
    show x.map (·.text) ++ g :: backR g (z :: q) = (x.map (·.text) ++ g :: backR g (y :: r)) ++ [t.text]
    rw [ih]; simp
theorem backR_new (g : List UInt8) : ∀ (o : List (List Tok)), o ≠ [] → backR g (o ++ [[]]) = backR g o ++ [g]
  | [x], _ => by simp [backR]
  | x :: y :: r, _ => by
    have ih := backR_new g (y :: r) (by simp)
    show x.map (·.text) ++ g :: backR g (y :: r ++ [[]]) = (x.map (·.text) ++ g :: backR g (y :: r)) ++ [g]
    rw [ih]; simp
theorem partF_back (g : List UInt8) : ∀ (l : List Tok) (op : List (List UInt8)) (out : List (List Tok)), out ≠ [] →
    ((partF g l op out).2 = 0 ∧ (partF g l op out).1 ≠ [] ∧ backR g (partF g l op out).1 = backR g out ++ l.map (·.text)) ∨ ((partF g l op out).2 = 3)
  | [], op, out, h => by
    show ((if op = [] then _ else _ : List (List Tok) × Nat).2 = 0 ∧ _) ∨ _
    unfold partF
    by_cases h0 : op = []
    · rw [if_pos h0]; left; exact ⟨rfl, h, by simp⟩
    · rw [if_neg h0]; right; rfl
  | t :: r, op, out, h => by
    have hadd : ∀ op', ((partF g r op' (addL out t)).2 = 0 ∧ (partF g r op' (addL out t)).1 ≠ [] ∧ backR g (partF g r op' (addL out t)).1 = backR g out ++ (t :: r).map (·.text)) ∨ ((partF g r op' (addL out t)).2 = 3) := by
      intro op'
      rcases partF_back g r op' (addL out t) (addL_ne t h) with ⟨h1, h2, h3⟩ | h1
      · left; refine ⟨h1, h2, ?_⟩
        rw [h3, backR_add g out t h]; simp
      · exact .inr h1
    unfold partF
    split
    · rename_i hc
      rcases partF_back g r op (out ++ [[]]) (by simp) with ⟨h1, h2, h3⟩ | h1
      · left; refine ⟨h1, h2, ?_⟩
        have ht : t.text = g := by
          have := hc.2
          unfold isT at this
          rw [Bool.and_eq_true] at this
          exact eq_of_beq this.2
        rw [h3, backR_new g out h, List.map_cons, ht]; simp
      · exact .inr h1
    · split
      · exact hadd _
      · split
        · exact hadd _
        · split
          · split
            · exact .inr rfl
            · exact hadd _
          · exact hadd _
theorem parts_law {l : List Tok} {g : List UInt8} (hl : l.length ≤ 4097) (hg : parter g = true) : ((partT l g).2 = 0 ∧ (partT l g).1 ≠ [] ∧ backR g (partT l g).1 = (cutEnd l).map (·.text)) ∨ (partT l g).2 = 3 := by
  unfold partT
  rw [if_neg (by omega), if_neg (by rw [hg]; simp)]
  rcases partF_back g (cutEnd l) [] [[]] (by simp) with ⟨h1, h2, h3⟩ | h
  · exact .inl ⟨h1, h2, by rw [h3]; rfl⟩
  · exact .inr h
/-- The reference's brackets: those that were opened. -/
def opn (op : List (List UInt8)) : List UInt8 := op.map fun c => if c = [41] then 40 else 91
end Go.Proofs.YtlmdpamehhcblaaGreatDoorD
