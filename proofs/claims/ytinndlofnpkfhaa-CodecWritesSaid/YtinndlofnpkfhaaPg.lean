/-
  Plain law: pages as lists of bytes; which lists are pages; that one other bit, one byte more, or some less, is none.
-/
import Derived.Test.YtinndlofnpkfhaaCrc
import Derived.Test.YtinndlofnpkfhaaBe
namespace Go.Proofs.Ytinndlofnpkfhaa

theorem beb_inj {n a b : Nat} (ha : a < 256 ^ n) (hb : b < 256 ^ n) (h : beb a n = beb b n) : a = b := by
  rw [← num_beb n a ha, ← num_beb n b hb, h]

def pageH (k : Nat) (p : List Nat) : List Nat := [112, 97, 103] ++ beb k 1 ++ beb p.length 4 ++ p
def page (k : Nat) (p : List Nat) : List Nat := pageH k p ++ beb (Crc.crc (pageH k p)) 4
def payload (b : List Nat) : List Nat := (b.drop 8).take (b.length - 4 - 8)
def isPage (k : Int) (b : List Nat) : Prop := 12 ≤ b.length ∧ 1 ≤ k ∧ k ≤ 3 ∧ (payload b).length ≤ 60000 ∧ page k.toNat (payload b) = b

theorem pageH_length (k : Nat) (p : List Nat) : (pageH k p).length = p.length + 8 := by simp [pageH, beb_length]; omega
theorem page_length (k : Nat) (p : List Nat) : (page k p).length = p.length + 12 := by simp [page, pageH_length, beb_length]
theorem pageH_lt (k : Nat) (p : List Nat) (hp : ∀ x ∈ p, x < 256) : ∀ x ∈ pageH k p, x < 256 := by
  intro x hx
  simp only [pageH, List.mem_append, List.mem_cons, List.not_mem_nil, or_false] at hx
  rcases hx with ((h | h) | h) | h
  · omega
  · exact beb_lt _ _ x h
  · exact beb_lt _ _ x h
  · exact hp x h
theorem page_lt (k : Nat) (p : List Nat) (hp : ∀ x ∈ p, x < 256) : ∀ x ∈ page k p, x < 256 := by
  intro x hx
  rcases List.mem_append.1 hx with h | h
  · exact pageH_lt k p hp x h
  · exact beb_lt _ _ x h
theorem payload_page (k : Nat) (p : List Nat) : payload (page k p) = p := by
  unfold payload
  rw [page_length, show p.length + 12 - 4 - 8 = p.length from by omega]
  have e : page k p = ([112, 97, 103] ++ beb k 1 ++ beb p.length 4) ++ (p ++ beb (Crc.crc (pageH k p)) 4) := by simp [page, pageH]
  rw [e, List.drop_append_of_le_length (by simp [beb_length]), List.drop_of_length_le (by simp [beb_length]), List.nil_append, List.take_left]
theorem page_isPage (k : Nat) (p : List Nat) (h1 : 1 ≤ k) (h2 : k ≤ 3) (h3 : p.length ≤ 60000) : isPage k (page k p) :=
  ⟨by rw [page_length]; omega, by omega, by omega, by rw [payload_page]; exact h3, by rw [payload_page, Int.toNat_natCast]⟩
theorem page_take (k : Nat) (p : List Nat) : (page k p).take 8 = [112, 97, 103] ++ beb k 1 ++ beb p.length 4 := by
  have e : page k p = ([112, 97, 103] ++ beb k 1 ++ beb p.length 4) ++ (p ++ beb (Crc.crc (pageH k p)) 4) := by simp [page, pageH]
  rw [e]
  exact List.take_left' (by simp [beb_length])
theorem page_kind {k k' : Nat} {p p' : List Nat} (h : page k p = page k' p') (hk : k < 256) (hk' : k' < 256) : k = k' := by
  have h8 := congrArg (List.take 8) h
  rw [page_take, page_take] at h8
  simp only [List.append_assoc, List.append_cancel_left_eq] at h8
  have := List.append_inj_left h8 (by simp [beb_length])
  exact beb_inj (n := 1) (by simpa using hk) (by simpa using hk') this
theorem page_len {k k' : Nat} {p p' : List Nat} (h : (page k p).take 8 = (page k' p').take 8) (hp : p.length < 4294967296) (hp' : p'.length < 4294967296) : p.length = p'.length := by
  rw [page_take, page_take] at h
  have := List.append_inj_right' h (by simp [beb_length])
  exact beb_inj (n := 4) (by simpa using hp) (by simpa using hp') this
theorem page_other (k k' : Nat) (p : List Nat) (h1 : k < 256) (h2 : k' < 256) (h : k ≠ k') : ¬ isPage k' (page k p) := by
  rintro ⟨_, _, _, _, he⟩
  rw [Int.toNat_natCast] at he
  exact h (page_kind he h2 h1).symm
theorem page_cut (k : Nat) (p : List Nat) (hp : p.length < 60000) (j : Nat) (hj : j < (page k p).length) : ¬ isPage k ((page k p).take j) := by
  rintro ⟨hl, _, _, hpl, he⟩
  rw [Int.toNat_natCast] at he
  have hlen := congrArg List.length he
  rw [page_length, List.length_take] at hlen
  rw [List.length_take] at hl
  have := page_len (k := k) (k' := k) (p := payload ((page k p).take j)) (p' := p) (by rw [he, List.take_take, show min 8 j = 8 from by omega]) (by omega) (by omega)
  rw [page_length] at hj
  omega
theorem page_more (k : Nat) (p : List Nat) (x : Nat) (hp : p.length < 60000) : ¬ isPage k (page k p ++ [x]) := by
  rintro ⟨hl, _, _, hpl, he⟩
  rw [Int.toNat_natCast] at he
  have hlen := congrArg List.length he
  rw [page_length, List.length_append, page_length] at hlen
  have := page_len (k := k) (k' := k) (p := payload (page k p ++ [x])) (p' := p) (by rw [he, List.take_append_of_le_length (by rw [page_length]; omega)]) (by omega) (by omega)
  simp at hlen
  omega
theorem set_split {l : List Nat} {i x : Nat} (h : l[i]? = some x) : ∃ a b, l = a ++ x :: b ∧ a.length = i ∧ ∀ y, l.set i y = a ++ y :: b := by
  have hi : i < l.length := (List.getElem?_eq_some_iff.1 h).1
  have hx : l[i] = x := (List.getElem?_eq_some_iff.1 h).2
  refine ⟨l.take i, l.drop (i + 1), ?_, by rw [List.length_take]; omega, fun y => ?_⟩
  · rw [← hx, ← List.drop_eq_getElem_cons hi, List.take_append_drop]
  · rw [List.set_eq_take_append_cons_drop, if_pos hi]
theorem page_turned (k : Nat) (p : List Nat) (hp : ∀ x ∈ p, x < 256) (i x y : Nat) (hx : (page k p)[i]? = some x) (hy : y < 256) (hne : x ≠ y) : ¬ isPage k ((page k p).set i y) := by
  rintro ⟨hl, _, _, hpl, he⟩
  rw [Int.toNat_natCast] at he
  generalize hq : payload ((page k p).set i y) = q at he hpl
  have hi : i < (page k p).length := (List.getElem?_eq_some_iff.1 hx).1
  have hlen := congrArg List.length he
  rw [page_length, List.length_set, page_length] at hlen
  have hql : q.length = p.length := by omega
  have hq2 : ∀ z ∈ q, z < 256 := by
    intro z hz
    rw [← hq] at hz
    have := List.mem_of_mem_drop (List.mem_of_mem_take hz)
    rcases List.mem_or_eq_of_mem_set this with h | h
    · exact page_lt k p hp z h
    · rw [h]; exact hy
  have hH := pageH_length k p
  have hH' := pageH_length k q
  rcases Nat.lt_or_ge i (pageH k p).length with h | h
  · -- ahead of the sum
    have hs : (page k p).set i y = (pageH k p).set i y ++ beb (Crc.crc (pageH k p)) 4 := by rw [page, List.set_append_left _ _ h]
    rw [hs] at he
    have h1 := List.append_inj_left he (by rw [List.length_set]; omega)
    have h2 := List.append_inj_right he (by rw [List.length_set]; omega)
    have h3 := beb_inj (n := 4) (by simpa using Crc.crc_lt _ (pageH_lt k q hq2)) (by simpa using Crc.crc_lt _ (pageH_lt k p hp)) h2
    have hxx : (pageH k p)[i]? = some x := by rw [← hx, page, List.getElem?_append_left h]
    obtain ⟨a, b, e1, _, e2⟩ := set_split hxx
    rw [h1, e2, e1] at h3
    have hall := pageH_lt k p hp
    rw [e1] at hall
    exact Crc.crc_other a b x y (fun z hz => hall z (by simp [hz])) (fun z hz => hall z (by simp [hz])) (hall x (by simp)) hy hne h3.symm
  · have hs : (page k p).set i y = pageH k p ++ (beb (Crc.crc (pageH k p)) 4).set (i - (pageH k p).length) y := by rw [page, List.set_append_right _ _ h]
    rw [hs] at he
    have h1 := List.append_inj_left he (by omega)
    have h2 := List.append_inj_right he (by omega)
    rw [h1] at h2
    have hxx : (beb (Crc.crc (pageH k p)) 4)[i - (pageH k p).length]? = some x := by rw [← hx, page, List.getElem?_append_right h]
    have := congrArg (fun l => l[i - (pageH k p).length]?) h2
    simp only [hxx, List.getElem?_set] at this
    rw [if_pos trivial, if_pos (List.getElem?_eq_some_iff.1 hxx).1] at this
    injection this with this
    exact hne this
end Go.Proofs.Ytinndlofnpkfhaa
