/-
  Plain law: names, messages, notes; their payloads, and that a payload tells its note. Plain law: an index, flags, a tree, and their pages; what a log's are. Plain law: what a log says of formed notes; a mailbox that is whole is right, and stays whole when notes come. Plain law: mailboxes: what is put behind, taken away, copied; that the notes of it tell just that. Plain law: a store's files: their names; a disk of which one file has turned; which disks hold mailboxes that are whole. Plain law: what notes, a new mailbox, a harm, what is put aside leave of a disk that holds mailboxes that are whole.
-/
import Derived.Lib.Split
import Derived.Lib.Case
import Derived.Lib.IndexMore
import Derived.Test.YtlhaempecidohaaGreatDoorJaj
import Derived.Test.YtlhaempecidohaaGreatDoorJae
import Derived.Test.YtlhaempecidohaaGreatDoorJaa
import Derived.Test.YtlhaempecidohaaGreatDoorJab
set_option linter.unusedSimpArgs false
set_option linter.unusedVariables false
namespace Go.Proofs.YtlhaempecidohaaGreatDoor
/-! ### Names -/
def inboxS : ByteArray := ⟨#[73, 78, 66, 79, 88]⟩
/-- bytes that stand in names -/
def plainB (c : Nat) : Bool := (decide (97 ≤ c) && decide (c ≤ 122)) || (decide (65 ≤ c) && decide (c ≤ 90)) || (decide (48 ≤ c) && decide (c ≤ 57)) || decide (c = 46) || decide (c = 95) || decide (c = 45)
def slashS : ByteArray := ⟨#[47]⟩
/-- a text's parts, apart at '/' -/
def partsS (s : ByteArray) : List ByteArray := Lib.splitB slashS 0 (Lib.countB s slashS) s
def partOk (p : ByteArray) : Bool := !decide (p.size = 0) && (ofStr p).all plainB
def normalS (s : ByteArray) : Bool := decide (s.size ≤ 60) && (partsS s).all partOk
def upS (s : ByteArray) : ByteArray := ⟨(Lib.toUpperA s.data.toList).toArray⟩
/-- a name as it should be -/
def named (s : ByteArray) : Bool := normalS s && (!decide (upS s = inboxS) || decide (s = inboxS))
theorem named_normal {s : ByteArray} (h : named s = true) : normalS s = true := by
  unfold named at h
  simp only [Bool.and_eq_true] at h
  exact h.1
theorem named_size {s : ByteArray} (h : named s = true) : s.size ≤ 60 := by
  have h := named_normal h
  unfold normalS at h
  simp only [Bool.and_eq_true, decide_eq_true_eq] at h
  exact h.1
theorem named_inbox : named inboxS = true := by decide +kernel
theorem named_empty : named ByteArray.empty = false := by decide +kernel
/-- a byte of a text is a slash, or one of a part's -/
theorem split_bytes : ∀ (k : Nat) (s : List UInt8), ∀ x ∈ s, x = 47 ∨ ∃ p ∈ Lib.splitK [47] 0 k s, x ∈ p
  | 0, s, x, hx => .inr ⟨s, by simp [Lib.splitK], hx⟩
  | k + 1, s, x, hx => by
    unfold Lib.splitK
    split
    · exact .inr ⟨s, by simp, hx⟩
    · rename_i hne
      rcases Lib.index_spec s [47] with ⟨h1, _⟩ | ⟨i, h1, h2, h3, _⟩
      · rw [h1] at hne; exact absurd rfl hne
      · rw [h1]
        have hocc : (s.drop i).take 1 = [47] := by
          unfold Lib.occAt at h3
          rw [List.isPrefixOf_iff_prefix, List.prefix_iff_eq_take] at h3
          exact h3.symm
        have hd : s.drop i = 47 :: s.drop (i + 1) := by
          cases hq : s.drop i with
          | nil => rw [hq] at hocc; cases hocc
          | cons y l =>
            rw [hq] at hocc
            simp at hocc
            have : s.drop (i + 1) = l := by rw [← List.drop_drop, hq]; rfl
            rw [this, hocc]
        have e : s = s.take i ++ 47 :: s.drop (i + 1) := by rw [← hd, List.take_append_drop]
        rw [e] at hx
        have e1 : ((i : Int).toNat + 0) = i := by omega
        have e2 : ((i : Int).toNat + [(47 : UInt8)].length) = i + 1 := by simp
        rw [e1, e2]
        rcases List.mem_append.1 hx with hx | hx
        · exact .inr ⟨s.take i, by simp, hx⟩
        · rcases List.mem_cons.1 hx with hx | hx
          · exact .inl hx
          · rcases split_bytes k (s.drop (i + 1)) x hx with h | ⟨p, hp, hxp⟩
            · exact .inl h
            · exact .inr ⟨p, List.mem_cons_of_mem _ hp, hxp⟩
theorem split_le : ∀ (k : Nat) (s : List UInt8), ∀ p ∈ Lib.splitK [47] 0 k s, p.length ≤ s.length
  | 0, s, p, hp => by
    simp only [Lib.splitK, List.mem_singleton] at hp
    rw [hp]; exact Nat.le_refl _
  | k + 1, s, p, hp => by
    unfold Lib.splitK at hp
    split at hp
    · rw [List.mem_singleton.1 hp]; exact Nat.le_refl _
    · rcases List.mem_cons.1 hp with rfl | hp
      · rw [List.length_take]; exact Nat.min_le_right _ _
      · have := split_le k _ p hp
        rw [List.length_drop] at this
        omega
theorem parts_le {s p : ByteArray} (h : p ∈ partsS s) : p.size ≤ s.size := by
  have hd := Lib.splitB_data slashS 0 (Lib.countB s slashS) s
  rw [show slashS.data.toList = [47] from rfl] at hd
  have hm : p.data.toList ∈ (partsS s).map (·.data.toList) := List.mem_map.2 ⟨p, h, rfl⟩
  unfold partsS at hm
  rw [hd] at hm
  have := split_le _ _ _ hm
  rw [Array.length_toList, Array.length_toList] at this
  exact this
theorem plainB_lt {c : Nat} (h : plainB c = true) : c < 128 := by
  unfold plainB at h
  simp only [Bool.or_eq_true, Bool.and_eq_true, decide_eq_true_eq] at h
  omega
theorem normal_ascii {s : ByteArray} (h : ∀ p ∈ partsS s, partOk p = true) : ∀ (j : Nat) (b : UInt8), s.data.toList[j]? = some b → b.toNat < 128 := by
  intro j b hj
  rcases split_bytes (Lib.countB s slashS) s.data.toList b (List.mem_of_getElem? hj) with rfl | ⟨p, hp, hb⟩
  · decide
  · have hd := Lib.splitB_data slashS 0 (Lib.countB s slashS) s
    rw [show slashS.data.toList = [47] from rfl] at hd
    rw [← hd] at hp
    obtain ⟨q, hq, rfl⟩ := List.mem_map.1 hp
    have := h q hq
    unfold partOk at this
    simp only [Bool.and_eq_true, List.all_eq_true] at this
    exact plainB_lt (this.2 b.toNat (List.mem_map.2 ⟨b, hb, rfl⟩))
/-! ### Messages, notes -/
structure Msg where
  uid : Nat
  date : Int
  flags : Int
  oct : List Nat
instance : Inhabited Msg := ⟨⟨0, 0, 0, []⟩⟩
structure Note where
  kind : Int
  epoch : Nat
  name : ByteArray
  msg : Msg
def dated (t : Int) : Bool := decide (0 ≤ t) && decide (t ≤ 253402300799)
def flagged (f : Int) : Bool := decide (0 ≤ f) && decide (f ≤ 31)
def rightMsg (m : Msg) : Bool := decide (1 ≤ m.uid) && dated m.date && flagged m.flags && decide (m.oct.length ≤ 20000)
def bareMsg (m : Msg) : Bool := decide (m.date = 0) && decide (m.flags = 0) && decide (m.oct.length = 0)
def formed (n : Note) : Bool :=
  if n.epoch < 1 then false
  else if n.kind = 1 then named n.name && bareMsg n.msg && decide (n.msg.uid = 0)
  else if n.kind = 2 then named n.name && rightMsg n.msg
  else decide (n.kind = 3) && decide (n.name = ByteArray.empty) && bareMsg n.msg && decide (1 ≤ n.msg.uid)
/-- of memory's sizes -/
structure Msg.wf (m : Msg) : Prop where
  uid : m.uid < 4294967296
  oct : ∀ x ∈ m.oct, x < 256
structure Note.wf (n : Note) : Prop where
  epoch : n.epoch < 4294967296
  msg : n.msg.wf
def textB (s : ByteArray) : List Nat := beb s.size 2 ++ ofStr s
/-- a note's payload -/
def encode (n : Note) : List Nat :=
  beb n.epoch 4 ++ (if n.kind = 1 then [] else beb n.msg.uid 4) ++ (if n.kind = 2 then beb n.msg.date.toNat 6 ++ beb n.msg.flags.toNat 1 else []) ++ (if n.kind = 3 then [] else textB n.name) ++ n.msg.oct
theorem textB_length (s : ByteArray) : (textB s).length = s.size + 2 := by simp [textB, beb_length, ofStr_length]; omega
theorem textB_lt (s : ByteArray) : ∀ x ∈ textB s, x < 256 := by
  intro x hx
  rcases List.mem_append.1 hx with h | h
  · exact beb_lt _ _ x h
  · exact ofStr_lt s x h
theorem formed_kind {n : Note} (h : formed n = true) : n.kind = 1 ∨ n.kind = 2 ∨ n.kind = 3 := by
  unfold formed at h
  split at h
  · cases h
  · split at h
    · left; assumption
    · split at h
      · right; left; assumption
      · simp only [Bool.and_eq_true, decide_eq_true_eq] at h
        exact .inr (.inr h.1.1.1)
theorem formed_oct {n : Note} (h : formed n = true) : n.msg.oct.length ≤ 20000 := by
  unfold formed at h
  split at h
  · cases h
  · split at h
    · simp only [bareMsg, Bool.and_eq_true, decide_eq_true_eq] at h; omega
    · split at h
      · simp only [rightMsg, Bool.and_eq_true, decide_eq_true_eq] at h; omega
      · simp only [bareMsg, Bool.and_eq_true, decide_eq_true_eq] at h; omega
theorem formed_name {n : Note} (h : formed n = true) : n.name.size ≤ 60 := by
  unfold formed at h
  split at h
  · cases h
  · split at h
    · simp only [Bool.and_eq_true] at h; exact named_size h.1.1
    · split at h
      · simp only [Bool.and_eq_true] at h; exact named_size h.1
      · simp only [Bool.and_eq_true, decide_eq_true_eq] at h; rw [h.1.1.2]; decide
theorem encode_length {n : Note} (h : formed n = true) : (encode n).length ≤ 77 + n.msg.oct.length := by
  have := formed_name h
  unfold encode
  simp only [List.length_append, beb_length]
  split <;> split <;> split <;> simp [beb_length, textB_length] <;> omega
theorem encode_le {n : Note} (h : formed n = true) : (encode n).length ≤ 30000 := by
  have := encode_length h; have := formed_oct h; omega
theorem encode_oct (n : Note) : n.msg.oct.length ≤ (encode n).length := by unfold encode; simp only [List.length_append]; omega
theorem encode_lt {n : Note} (h : n.wf) : ∀ x ∈ encode n, x < 256 := by
  intro x hx
  unfold encode at hx
  simp only [List.mem_append] at hx
  rcases hx with (((hx | hx) | hx) | hx) | hx
  · exact beb_lt _ _ x hx
  · split at hx
    · cases hx
    · exact beb_lt _ _ x hx
  · split at hx
    · rcases List.mem_append.1 hx with h | h
      · exact beb_lt _ _ x h
      · exact beb_lt _ _ x h
    · cases hx
  · split at hx
    · cases hx
    · exact textB_lt _ x hx
  · exact h.msg.oct x hx
/-! ### A log's bytes -/
def pair (n : Note) : Nat × List Nat := (n.kind.toNat, encode n)
def logB (ns : List Note) : List Nat := frames (ns.map pair)
def Formed (ns : List Note) : Prop := ∀ n ∈ ns, formed n = true ∧ n.wf
theorem Formed.good {ns : List Note} (h : Formed ns) : good (ns.map pair) := by
  intro x hx
  obtain ⟨n, hn, rfl⟩ := List.mem_map.1 hx
  obtain ⟨h1, h2⟩ := h n hn
  have hk := formed_kind h1
  exact ⟨by show 1 ≤ n.kind.toNat; omega, by show n.kind.toNat ≤ 3; omega, encode_le h1, encode_lt h2⟩
theorem logB_append (a b : List Note) : logB (a ++ b) = logB a ++ logB b := by unfold logB; rw [List.map_append, frames_append]
theorem logB_one (n : Note) : logB [n] = frameB n.kind.toNat (encode n) := by simp [logB, pair, frames]
theorem logB_cons (n : Note) (l : List Note) : logB (n :: l) = frameB n.kind.toNat (encode n) ++ logB l := rfl
theorem frames_lt (l : List (Nat × List Nat)) (h : good l) : ∀ x ∈ frames l, x < 256 := by
  induction l with
  | nil => intro x hx; cases hx
  | cons y l ih =>
    obtain ⟨k, p⟩ := y
    intro x hx
    rcases List.mem_append.1 hx with hx | hx
    · exact frameB_lt k p (h _ (List.mem_cons_self)).2.2.2 x hx
    · exact ih (fun z hz => h z (List.mem_cons_of_mem _ hz)) x hx
theorem logB_lt {ns : List Note} (h : Formed ns) : ∀ x ∈ logB ns, x < 256 := frames_lt _ h.good
theorem scan_log {ns : List Note} (h : Formed ns) : scan (logB ns) 0 = (recsFrom 0 (ns.map pair), (logB ns).length) := scan_all _ h.good
/-! ### What a log says -/
structure LiveS where
  msg : Msg
  epoch : Nat
  at_ : Nat
structure LogS where
  name : ByteArray
  epoch : Nat
  next : Nat
  live : List LiveS
def LogS.start : LogS := ⟨ByteArray.empty, 0, 1, []⟩
def behind (u : Nat) : Nat := if u = 4294967295 then u else u + 1
def takeS (l : LogS) (n : Note) (a : Nat) : LogS where
  name := if n.kind = 3 then l.name else n.name
  epoch := max l.epoch n.epoch
  next := if l.epoch < n.epoch then (if n.kind = 1 then 1 else max 1 (behind n.msg.uid)) else if n.epoch = l.epoch ∧ n.kind ≠ 1 then max l.next (behind n.msg.uid) else l.next
  live := if n.kind = 2 then l.live ++ [⟨n.msg, n.epoch, a⟩] else if n.kind = 3 then l.live.filter fun x => !(decide (x.epoch = n.epoch) && decide (x.msg.uid = n.msg.uid)) else l.live
def takeAll : LogS → Nat → List Note → LogS
  | l, _, [] => l
  | l, a, n :: ns => takeAll (takeS l n a) (a + 44 + (encode n).length) ns
def readS (ns : List Note) : LogS := takeAll .start 0 ns
theorem takeAll_append (l : LogS) (a : Nat) (xs ys : List Note) : takeAll l a (xs ++ ys) = takeAll (takeAll l a xs) (a + (logB xs).length) ys := by
  induction xs generalizing l a with
  | nil => simp [takeAll, logB, frames]
  | cons x xs ih =>
    show takeAll (takeS l x a) _ (xs ++ ys) = _
    rw [ih, logB_cons, List.length_append, frameB_length, takeAll]
    congr 1
    omega
/-- all of one epoch, and rising -/
def cleanFrom (ep : Nat) : Option Nat → List LiveS → Bool
  | _, [] => true
  | p, x :: r => decide (x.epoch = ep) && !decide (x.msg.uid = 4294967295) && (match p with | none => true | some u => decide (u < x.msg.uid)) && cleanFrom ep (some x.msg.uid) r
def cleanS (l : LogS) : Bool := cleanFrom l.epoch none l.live
end Go.Proofs.YtlhaempecidohaaGreatDoor
namespace Go.Proofs.YtlhaempecidohaaGreatDoor
/-! ### An index -/
structure IdxS where
  name : ByteArray
  epoch : Nat
  next : Nat
  upto : Nat
  L : List (Nat × Nat)
structure IdxS.wf (x : IdxS) : Prop where
  epoch : x.epoch < 4294967296
  next : x.next < 4294967296
  uids : ∀ e ∈ x.L, e.1 < 4294967296
def idxFrom (next : Nat) : Nat → List (Nat × Nat) → Bool
  | _, [] => true
  | last, e :: r => decide (last < e.1) && (decide (e.1 < next) || decide (next = 4294967295)) && decide (e.2 ≤ 4294967295) && idxFrom next e.1 r
def rightIdx (x : IdxS) : Bool :=
  idxFrom x.next 0 x.L && named x.name && decide (1 ≤ x.epoch) && decide (1 ≤ x.next) && decide (x.upto ≤ 4294967295) && decide (x.L.length ≤ 500)
def idxP (x : IdxS) : List Nat :=
  textB x.name ++ beb x.epoch 4 ++ beb x.next 4 ++ beb x.upto 4 ++ beb x.L.length 2 ++ x.L.flatMap fun e => beb e.1 4 ++ beb e.2 4
def idxB (x : IdxS) : List Nat := page 1 (idxP x)
theorem flat_len {α : Type} (l : List α) (f : α → List Nat) (k : Nat) (h : ∀ x ∈ l, (f x).length = k) : (l.flatMap f).length = l.length * k := by
  induction l with
  | nil => simp
  | cons x l ih => rw [List.flatMap_cons, List.length_append, h x (by simp), ih (fun y hy => h y (by simp [hy])), List.length_cons, Nat.add_mul]; omega
theorem idxP_length (x : IdxS) : (idxP x).length = x.name.size + 16 + x.L.length * 8 := by
  unfold idxP
  simp only [List.length_append, beb_length, textB_length]
  rw [flat_len x.L _ 8 (fun e _ => by simp [beb_length])]
theorem idxP_lt (x : IdxS) : ∀ y ∈ idxP x, y < 256 := by
  intro y hy
  unfold idxP at hy
  simp only [List.mem_append, List.mem_flatMap] at hy
  rcases hy with ((((h | h) | h) | h) | h) | ⟨e, _, h | h⟩
  · exact textB_lt _ y h
  all_goals exact beb_lt _ _ y h
theorem rightIdx_len {x : IdxS} (h : rightIdx x = true) : (idxP x).length ≤ 5000 := by
  unfold rightIdx at h
  simp only [Bool.and_eq_true, decide_eq_true_eq] at h
  have := named_size h.1.1.1.1.2
  rw [idxP_length]; omega
theorem idxB_lt (x : IdxS) : ∀ y ∈ idxB x, y < 256 := page_lt 1 _ (idxP_lt x)
theorem rightIdx_bytes {x : IdxS} (h : rightIdx x = true) : (idxB x).length ≤ 5012 := by
  have := rightIdx_len h
  unfold idxB; rw [page_length]; omega
/-! ### Flags -/
structure FlgS where
  epoch : Nat
  L : List (Nat × Int)
def flgFrom : Nat → List (Nat × Int) → Bool
  | _, [] => true
  | last, m :: r => decide (last < m.1) && decide (0 ≤ m.2) && decide (m.2 ≤ 31) && flgFrom m.1 r
def rightFlg (x : FlgS) : Bool := flgFrom 0 x.L && decide (1 ≤ x.epoch) && decide (x.L.length ≤ 500)
structure FlgS.wf (x : FlgS) : Prop where
  epoch : x.epoch < 4294967296
  uids : ∀ e ∈ x.L, e.1 < 4294967296
def markB (m : Nat × Int) : List Nat := beb m.1 4 ++ beb m.2.toNat 1
def flgP (x : FlgS) : List Nat := beb x.epoch 4 ++ beb x.L.length 2 ++ x.L.flatMap markB
def flgB (x : FlgS) : List Nat := page 2 (flgP x)
theorem flgP_length (x : FlgS) : (flgP x).length = 6 + x.L.length * 5 := by
  unfold flgP
  simp only [List.length_append, beb_length]
  rw [flat_len x.L _ 5 (fun e _ => by simp [markB, beb_length])]
theorem flgP_lt (x : FlgS) : ∀ y ∈ flgP x, y < 256 := by
  intro y hy
  unfold flgP at hy
  simp only [List.mem_append, List.mem_flatMap, markB] at hy
  rcases hy with (h | h) | ⟨e, _, h | h⟩
  all_goals exact beb_lt _ _ y h
theorem flgB_lt (x : FlgS) : ∀ y ∈ flgB x, y < 256 := page_lt 2 _ (flgP_lt x)
theorem rightFlg_len {x : FlgS} (h : rightFlg x = true) : (flgP x).length ≤ 3000 := by
  unfold rightFlg at h
  simp only [Bool.and_eq_true, decide_eq_true_eq] at h
  rw [flgP_length]; omega
theorem rightFlg_bytes {x : FlgS} (h : rightFlg x = true) : (flgB x).length ≤ 3012 := by
  have := rightFlg_len h
  unfold flgB; rw [page_length]; omega
/-! ### A tree -/
abbrev PlaceS := Nat × ByteArray
def treeFrom : List PlaceS → List PlaceS → Bool
  | _, [] => true
  | seen, p :: r =>
    decide (p.1 < 16) && (match seen.getLast? with | none => true | some q => decide (q.1 < p.1)) && named p.2 && !(seen.any fun q => decide (q.2 = p.2)) && treeFrom (seen ++ [p]) r
def inboxes (l : List PlaceS) : Nat := (l.filter fun p => decide (p.2 = inboxS)).length
def rightTree (l : List PlaceS) : Bool := treeFrom [] l && decide (inboxes l = 1)
def treeP (l : List PlaceS) : List Nat := beb l.length 1 ++ l.flatMap fun p => beb p.1 1 ++ textB p.2
def treeB (l : List PlaceS) : List Nat := page 3 (treeP l)
theorem treeP_lt (l : List PlaceS) : ∀ y ∈ treeP l, y < 256 := by
  intro y hy
  unfold treeP at hy
  simp only [List.mem_append, List.mem_flatMap] at hy
  rcases hy with h | ⟨e, _, h | h⟩
  · exact beb_lt _ _ y h
  · exact beb_lt _ _ y h
  · exact textB_lt _ y h
theorem treeB_lt (l : List PlaceS) : ∀ y ∈ treeB l, y < 256 := page_lt 3 _ (treeP_lt l)
/-! ### What a log's index, and its flags, are -/
def LogS.sound (l : LogS) : Bool := cleanS l && !decide (l.name = ByteArray.empty)
def ofI (l : LogS) (torn : Nat) : IdxS := if l.sound then ⟨l.name, l.epoch, l.next, torn, l.live.map fun x => (x.msg.uid, x.at_)⟩ else ⟨ByteArray.empty, 0, 0, 0, []⟩
def ofF (l : LogS) : FlgS := if l.sound then ⟨l.epoch, l.live.map fun x => (x.msg.uid, x.msg.flags)⟩ else ⟨0, []⟩
theorem rightIdx_empty : rightIdx ⟨ByteArray.empty, 0, 0, 0, []⟩ = false := by simp [rightIdx]
theorem rightIdx_sound {l : LogS} {t : Nat} (h : rightIdx (ofI l t) = true) : l.sound = true := by
  unfold ofI at h
  split at h
  · assumption
  · rw [rightIdx_empty] at h; cases h
/-- flags that a mailbox has, else those of the log -/
def flagOf (marks : List (Nat × Int)) (m : Nat × Int) : Nat × Int :=
  match marks.find? fun y => decide (y.1 = m.1) with
  | some y => (m.1, y.2)
  | none => m
def flagsOf (l : LogS) (marks : List (Nat × Int)) : FlgS := ⟨(ofF l).epoch, (ofF l).L.map (flagOf marks)⟩
/-- what 'pages' hands back -/
def pagesOk (l : LogS) (t : Nat) (marks : List (Nat × Int)) : Bool := rightFlg (flagsOf l marks) && rightIdx (ofI l t)
/-! ### A mailbox -/
structure BoxS where
  name : ByteArray
  epoch : Nat
  next : Nat
  msgs : List Msg
def fitsMsg (m : Msg) : Bool := dated m.date && flagged m.flags
def boxFrom (next : Nat) : Nat → List Msg → Bool
  | _, [] => true
  | last, m :: r => decide (last < m.uid) && decide (m.uid < next) && fitsMsg m && decide (m.oct.length ≤ 20000) && boxFrom next m.uid r
def rightBox (b : BoxS) : Bool := named b.name && decide (1 ≤ b.epoch) && decide (1 ≤ b.next) && decide (b.msgs.length ≤ 500) && boxFrom b.next 0 b.msgs
def withFlags (l : List LiveS) (f : List (Nat × Int)) : List Msg := List.zipWith (fun x m => { x.msg with flags := m.2 }) l f
def boxOf (l : LogS) (f : FlgS) : BoxS := ⟨l.name, l.epoch, l.next, withFlags l.live f.L⟩
/-- a mailbox that is whole: what its log says, and its flags -/
structure Whole (ns : List Note) (f : FlgS) : Prop where
  formed : Formed ns
  idx : rightIdx (ofI (readS ns) (logB ns).length) = true
  flg : rightFlg f = true
  fwf : f.wf
  epoch : f.epoch = (readS ns).epoch
  uids : f.L.map (·.1) = (readS ns).live.map (·.msg.uid)
end Go.Proofs.YtlhaempecidohaaGreatDoor
namespace Go.Proofs.YtlhaempecidohaaGreatDoor
/-! ### What is live -/
/-- how many bytes live messages have -/
def liveB (l : List LiveS) : Nat := (l.map fun x => x.msg.oct.length).sum
structure LogS.ok (l : LogS) : Prop where
  live : ∀ x ∈ l.live, rightMsg x.msg = true ∧ x.msg.wf
  epoch : l.epoch < 4294967296
  next : l.next < 4294967296
theorem behind_lt {u : Nat} (h : u < 4294967296) : behind u < 4294967296 := by unfold behind; split <;> omega
theorem takeS_live (l : LogS) (n : Note) (a : Nat) :
    (takeS l n a).live = if n.kind = 2 then l.live ++ [⟨n.msg, n.epoch, a⟩] else if n.kind = 3 then l.live.filter (fun x => !(decide (x.epoch = n.epoch) && decide (x.msg.uid = n.msg.uid))) else l.live := rfl
theorem takeS_name (l : LogS) (n : Note) (a : Nat) : (takeS l n a).name = if n.kind = 3 then l.name else n.name := rfl
theorem takeS_epoch (l : LogS) (n : Note) (a : Nat) : (takeS l n a).epoch = max l.epoch n.epoch := rfl
theorem takeS_next (l : LogS) (n : Note) (a : Nat) (hn : l.next < 4294967296) (hu : n.msg.uid < 4294967296) : (takeS l n a).next < 4294967296 := by
  have := behind_lt hu
  show (if l.epoch < n.epoch then (if n.kind = 1 then 1 else max 1 (behind n.msg.uid)) else if n.epoch = l.epoch ∧ n.kind ≠ 1 then max l.next (behind n.msg.uid) else l.next) < _
  repeat' split
  all_goals omega
theorem formed_msg {n : Note} (h : formed n = true) (hk : n.kind = 2) : rightMsg n.msg = true := by
  unfold formed at h
  split at h
  · cases h
  · split at h
    · omega
    · first | rw [if_pos hk] at h | skip
      simp only [Bool.and_eq_true] at h
      exact h.2
theorem takeS_ok {l : LogS} {n : Note} (a : Nat) (h : l.ok) (hf : formed n = true) (hw : n.wf) : (takeS l n a).ok := by
  refine ⟨?_, ?_, takeS_next l n a h.next hw.msg.uid⟩
  · intro x hx
    rw [takeS_live] at hx
    split at hx
    · rcases List.mem_append.1 hx with hx | hx
      · exact h.live x hx
      · rw [List.mem_singleton.1 hx]
        exact ⟨formed_msg hf (by assumption), hw.msg⟩
    · split at hx
      · exact h.live x (List.mem_filter.1 hx).1
      · exact h.live x hx
  · rw [takeS_epoch]
    have := h.epoch
    have := hw.epoch
    omega
theorem takeAll_ok {ns : List Note} (h : Formed ns) : ∀ {l : LogS} (a : Nat), l.ok → (takeAll l a ns).ok := by
  induction ns with
  | nil => intro l a hl; exact hl
  | cons n ns ih =>
    intro l a hl
    exact ih (fun m hm => h m (List.mem_cons_of_mem _ hm)) _ (takeS_ok a hl (h n List.mem_cons_self).1 (h n List.mem_cons_self).2)
theorem start_ok : LogS.start.ok := ⟨(fun x hx => by cases hx), by decide, by decide⟩
theorem readS_ok {ns : List Note} (h : Formed ns) : (readS ns).ok := takeAll_ok h 0 start_ok
theorem liveB_append (a b : List LiveS) : liveB (a ++ b) = liveB a + liveB b := by simp [liveB]
theorem liveB_filter (p : LiveS → Bool) (l : List LiveS) : liveB (l.filter p) ≤ liveB l := by
  induction l with
  | nil => exact Nat.le_refl _
  | cons x l ih =>
    have e : liveB (x :: l) = x.msg.oct.length + liveB l := by simp [liveB]
    rw [List.filter_cons]
    split
    · have e2 : liveB (x :: l.filter p) = x.msg.oct.length + liveB (l.filter p) := by simp [liveB]
      omega
    · omega
theorem liveB_take (l : LogS) (n : Note) (a : Nat) : liveB (takeS l n a).live ≤ liveB l.live + n.msg.oct.length := by
  rw [takeS_live]
  split
  · rw [liveB_append]; simp [liveB]
  · split
    · have := liveB_filter (fun x => !(decide (x.epoch = n.epoch) && decide (x.msg.uid = n.msg.uid))) l.live; omega
    · omega
theorem liveB_all (ns : List Note) : ∀ (l : LogS) (a : Nat), liveB (takeAll l a ns).live ≤ liveB l.live + (logB ns).length := by
  induction ns with
  | nil => intro l a; simp [takeAll]
  | cons n ns ih =>
    intro l a
    have h1 := ih (takeS l n a) (a + 44 + (encode n).length)
    have h2 := liveB_take l n a
    have h3 := encode_oct n
    have h4 : (logB (n :: ns)).length = (encode n).length + 44 + (logB ns).length := by rw [logB_cons, List.length_append, frameB_length]
    show liveB (takeAll (takeS l n a) (a + 44 + (encode n).length) ns).live ≤ _
    omega
theorem liveB_read (ns : List Note) : liveB (readS ns).live ≤ (logB ns).length := by
  have := liveB_all ns .start 0
  simpa [readS, LogS.start, liveB] using this
/-! ### A name stays -/
theorem takeAll_name {nm : ByteArray} {ns : List Note} (h : ∀ n ∈ ns, n.kind = 3 ∨ n.name = nm) : ∀ (l : LogS) (a : Nat), l.name = nm → (takeAll l a ns).name = nm := by
  induction ns with
  | nil => intro l a e; exact e
  | cons n ns ih =>
    intro l a e
    refine ih (fun m hm => h m (List.mem_cons_of_mem _ hm)) _ _ ?_
    rw [takeS_name]
    rcases h n List.mem_cons_self with h1 | h1
    · rw [if_pos h1]; exact e
    · split
      · exact e
      · exact h1
theorem readS_name {nm : ByteArray} {ns l : List Note} (e : (readS ns).name = nm) (h : ∀ n ∈ l, n.kind = 3 ∨ n.name = nm) : (readS (ns ++ l)).name = nm := by
  unfold readS
  rw [takeAll_append]
  exact takeAll_name h _ _ e
/-! ### A mailbox that is whole is right -/
section
variable {ns : List Note} {f : FlgS}
theorem Whole.sound (h : Whole ns f) : (readS ns).sound = true := rightIdx_sound h.idx
theorem Whole.clean (h : Whole ns f) : cleanS (readS ns) = true := by
  have := h.sound
  unfold LogS.sound at this
  simp only [Bool.and_eq_true] at this
  exact this.1
theorem Whole.ofI (h : Whole ns f) : ofI (readS ns) (logB ns).length = ⟨(readS ns).name, (readS ns).epoch, (readS ns).next, (logB ns).length, (readS ns).live.map fun x => (x.msg.uid, x.at_)⟩ := by
  unfold YtlhaempecidohaaGreatDoor.ofI
  rw [if_pos h.sound]
theorem Whole.ofF (h : Whole ns f) : ofF (readS ns) = ⟨(readS ns).epoch, (readS ns).live.map fun x => (x.msg.uid, x.msg.flags)⟩ := by
  unfold YtlhaempecidohaaGreatDoor.ofF
  rw [if_pos h.sound]
theorem Whole.parts (h : Whole ns f) : named (readS ns).name = true ∧ 1 ≤ (readS ns).epoch ∧ 1 ≤ (readS ns).next ∧ (logB ns).length ≤ 4294967295 ∧ (readS ns).live.length ≤ 500 ∧
    idxFrom (readS ns).next 0 ((readS ns).live.map fun x => (x.msg.uid, x.at_)) = true := by
  have := h.idx
  rw [h.ofI] at this
  unfold rightIdx at this
  simp only [Bool.and_eq_true, decide_eq_true_eq, List.length_map] at this
  exact ⟨this.1.1.1.1.2, this.1.1.1.2, this.1.1.2, this.1.2, this.2, this.1.1.1.1.1⟩
theorem Whole.length (h : Whole ns f) : f.L.length = (readS ns).live.length := by
  have := congrArg List.length h.uids
  simpa using this
theorem flgFrom_all : ∀ {l : List (Nat × Int)} {last : Nat}, flgFrom last l = true → ∀ m ∈ l, 0 ≤ m.2 ∧ m.2 ≤ 31
  | x :: l, last, h, m, hm => by
    simp only [flgFrom, Bool.and_eq_true, decide_eq_true_eq] at h
    rcases List.mem_cons.1 hm with rfl | hm
    · exact ⟨h.1.1.2, h.1.2⟩
    · exact flgFrom_all h.2 m hm
theorem Whole.flags (h : Whole ns f) : ∀ m ∈ f.L, 0 ≤ m.2 ∧ m.2 ≤ 31 := by
  have := h.flg
  unfold rightFlg at this
  simp only [Bool.and_eq_true] at this
  exact flgFrom_all this.1.1
theorem boxFrom_of {next : Nat} : ∀ {l : List LiveS} {fl : List (Nat × Int)} {last : Nat} {p : Option Nat} {ep : Nat}, cleanFrom ep p l = true → idxFrom next last (l.map fun x => (x.msg.uid, x.at_)) = true →
    next < 4294967296 → (∀ x ∈ l, rightMsg x.msg = true ∧ x.msg.wf) → (∀ m ∈ fl, 0 ≤ m.2 ∧ m.2 ≤ 31) → boxFrom next last (withFlags l fl) = true
  | [], fl, last, p, ep, _, _, _, _, _ => by cases fl <;> rfl
  | x :: l, [], last, p, ep, _, _, _, _, _ => rfl
  | x :: l, m :: fl, last, p, ep, hc, hi, hn, hr, hf => by
    simp only [cleanFrom, Bool.and_eq_true, decide_eq_true_eq, Bool.not_eq_true', decide_eq_false_iff_not] at hc
    simp only [List.map_cons, idxFrom, Bool.and_eq_true, Bool.or_eq_true, decide_eq_true_eq] at hi
    obtain ⟨h1, h1w⟩ := hr x (by simp)
    have h2 := hf m (by simp)
    simp only [rightMsg, Bool.and_eq_true, decide_eq_true_eq] at h1
    have ih := boxFrom_of (next := next) (l := l) (fl := fl) hc.2 hi.2 hn (fun y hy => hr y (by simp [hy])) (fun y hy => hf y (by simp [hy]))
    have hu : x.msg.uid < next := by
      rcases hi.1.1.2 with h | h
      · exact h
      · have := hc.1.1.2
        have hw := h1w.uid
        omega
    show boxFrom next last ({ x.msg with flags := m.2 } :: withFlags l fl) = true
    simp only [boxFrom, fitsMsg, flagged, Bool.and_eq_true, decide_eq_true_eq]
    exact ⟨⟨⟨⟨hi.1.1.1, hu⟩, h1.1.1.2, h2⟩, h1.2⟩, ih⟩
end
end Go.Proofs.YtlhaempecidohaaGreatDoor
namespace Go.Proofs.YtlhaempecidohaaGreatDoor
/-- the first message of a UID -/
def BoxS.find (b : BoxS) (u : Nat) : Option Msg := b.msgs.find? fun m => decide (m.uid = u)
def addS (b : BoxS) (m : Msg) : BoxS := { b with next := b.next + 1, msgs := b.msgs ++ [{ m with uid := b.next }] }
/-- why a message can't be put behind; 0: it can -/
def addE (b : BoxS) (m : Msg) : Int :=
  if rightBox b = false ∨ fitsMsg m = false then 1
  else if 20000 < m.oct.length then 3
  else if 500 ≤ b.msgs.length then 5
  else if b.next = 4294967295 then 4
  else 0
structure BoxS.wf (b : BoxS) : Prop where
  epoch : b.epoch < 4294967296
  next : b.next < 4294967296
  msgs : ∀ m ∈ b.msgs, m.wf
theorem boxFrom_lt {next : Nat} : ∀ {l : List Msg} {last : Nat}, boxFrom next last l = true → ∀ m ∈ l, last < m.uid ∧ m.uid < next ∧ fitsMsg m = true ∧ m.oct.length ≤ 20000
  | x :: l, last, h, m, hm => by
    simp only [boxFrom, Bool.and_eq_true, decide_eq_true_eq] at h
    obtain ⟨⟨⟨⟨h1, h2⟩, h3⟩, h4⟩, h5⟩ := h
    rcases List.mem_cons.1 hm with rfl | hm
    · exact ⟨h1, h2, h3, h4⟩
    · obtain ⟨g1, g2⟩ := boxFrom_lt h5 m hm
      exact ⟨by omega, g2⟩
theorem boxFrom_mono {next next' : Nat} (hn : next ≤ next') : ∀ {l : List Msg} {last : Nat}, boxFrom next last l = true → boxFrom next' last l = true
  | [], _, _ => rfl
  | x :: l, last, h => by
    simp only [boxFrom, Bool.and_eq_true, decide_eq_true_eq] at h ⊢
    exact ⟨⟨⟨⟨h.1.1.1.1, by omega⟩, h.1.1.2⟩, h.1.2⟩, boxFrom_mono hn h.2⟩
theorem boxFrom_snoc {next : Nat} {m : Msg} (hu : m.uid = next) (hf : fitsMsg m = true) (ho : m.oct.length ≤ 20000) :
    ∀ {l : List Msg} {last : Nat}, last < next → boxFrom next last l = true → boxFrom (next + 1) last (l ++ [m]) = true
  | [], last, hl, _ => by simp only [List.nil_append, boxFrom, Bool.and_eq_true, decide_eq_true_eq]; exact ⟨⟨⟨⟨by omega, by omega⟩, hf⟩, ho⟩, trivial⟩
  | x :: l, last, hl, h => by
    simp only [List.cons_append, boxFrom, Bool.and_eq_true, decide_eq_true_eq] at h ⊢
    exact ⟨⟨⟨⟨h.1.1.1.1, by omega⟩, h.1.1.2⟩, h.1.2⟩, boxFrom_snoc hu hf ho (by omega) h.2⟩
theorem rightBox_parts {b : BoxS} (h : rightBox b = true) : named b.name = true ∧ 1 ≤ b.epoch ∧ 1 ≤ b.next ∧ b.msgs.length ≤ 500 ∧ boxFrom b.next 0 b.msgs = true := by
  unfold rightBox at h
  simp only [Bool.and_eq_true, decide_eq_true_eq] at h
  exact ⟨h.1.1.1.1, h.1.1.1.2, h.1.1.2, h.1.2, h.2⟩
theorem addS_right {b : BoxS} {m : Msg} (h : addE b m = 0) : rightBox (addS b m) = true := by
  unfold addE at h
  split at h
  · cases h
  · rename_i h1
    split at h
    · cases h
    · split at h
      · cases h
      · rename_i h2 h3
        simp only [not_or, Bool.not_eq_false] at h1
        obtain ⟨p1, p2, p3, p4, p5⟩ := rightBox_parts h1.1
        unfold rightBox addS
        simp only [Bool.and_eq_true, decide_eq_true_eq, List.length_append, List.length_singleton]
        refine ⟨⟨⟨⟨p1, p2⟩, by omega⟩, by omega⟩, boxFrom_snoc (next := b.next) (m := { m with uid := b.next }) (last := 0) rfl ?_ (show m.oct.length ≤ 20000 by omega) (by omega) p5⟩
        exact h1.2
theorem addS_wf {b : BoxS} {m : Msg} (hb : b.wf) (hm : ∀ x ∈ m.oct, x < 256) (h : addE b m = 0) : (addS b m).wf := by
  have hn : b.next ≠ 4294967295 := by
    unfold addE at h
    split at h
    · cases h
    · split at h
      · cases h
      · split at h
        · cases h
        · split at h
          · cases h
          · assumption
  have := hb.next
  refine ⟨hb.epoch, by show b.next + 1 < 4294967296; omega, ?_⟩
  intro x hx
  rcases List.mem_append.1 hx with hx | hx
  · exact hb.msgs x hx
  · rw [List.mem_singleton.1 hx]
    exact ⟨hb.next, hm⟩
theorem find_append {b : BoxS} {m : Msg} (hr : rightBox b = true) : (addS b m).find b.next = some { m with uid := b.next } := by
  unfold BoxS.find addS
  rw [List.find?_append]
  have : b.msgs.find? (fun m => decide (m.uid = b.next)) = none := by
    rw [List.find?_eq_none]
    intro x hx e
    have := (boxFrom_lt (rightBox_parts hr).2.2.2.2 x hx).2.1
    simp at e
    omega
  rw [this]
  simp
theorem find_stays {b : BoxS} {m x : Msg} {u : Nat} (h : b.find u = some x) : (addS b m).find u = some x := by
  unfold BoxS.find addS at *
  rw [List.find?_append, h]
  rfl
/-- messages put behind, one by one -/
def addAll : BoxS → List Msg → BoxS
  | b, [] => b
  | b, m :: l => addAll (addS b m) l
def addAllE : BoxS → List Msg → Int
  | _, [] => 0
  | b, m :: l => if addE b m = 0 then addAllE (addS b m) l else addE b m
/-- the UIDs that they get -/
def uidsOf : Nat → List Msg → List Nat
  | _, [] => []
  | n, _ :: l => n :: uidsOf (n + 1) l
theorem addAll_name : ∀ (l : List Msg) (b : BoxS), (addAll b l).name = b.name ∧ (addAll b l).epoch = b.epoch
  | [], b => ⟨rfl, rfl⟩
  | m :: l, b => by have := addAll_name l (addS b m); exact this
theorem addAll_find : ∀ (l : List Msg) {b : BoxS} {u : Nat} {x : Msg}, b.find u = some x → (addAll b l).find u = some x
  | [], _, _, _, h => h
  | _ :: l, _, _, _, h => addAll_find l (find_stays h)
/-- what 'came' tells of them is what they were -/
theorem addAll_came : ∀ (l : List Msg) {b : BoxS}, rightBox b = true → addAllE b l = 0 →
    ∃ ms : List Msg, ms.length = l.length ∧ ms.map (·.oct) = l.map (·.oct) ∧ (uidsOf b.next l).map (addAll b l).find = ms.map some
  | [], b, _, _ => ⟨[], rfl, rfl, rfl⟩
  | m :: l, b, hr, he => by
    unfold addAllE at he
    split at he
    · rename_i h0
      obtain ⟨ms, h1, h2, h3⟩ := addAll_came l (b := addS b m) (addS_right h0) he
      refine ⟨{ m with uid := b.next } :: ms, by simp [h1], by simp [h2], ?_⟩
      show (addAll (addS b m) l).find b.next :: (uidsOf (b.next + 1) l).map (addAll (addS b m) l).find = _
      rw [addAll_find l (find_append hr), List.map_cons]
      congr 1
    · rename_i h0; exact absurd he h0
theorem addAll_right : ∀ (l : List Msg) {b : BoxS}, rightBox b = true → addAllE b l = 0 → rightBox (addAll b l) = true
  | [], _, h, _ => h
  | m :: l, b, _, he => by
    unfold addAllE at he
    split at he
    · rename_i h0; exact addAll_right l (addS_right h0) he
    · rename_i h0; exact absurd he h0
/-! ### Away -/
def Away (uids : List Nat) (all : Bool) (m : Msg) : Bool := decide (bits .and .i64 m.flags 8 ≠ 0) && (all || uids.contains m.uid)
end Go.Proofs.YtlhaempecidohaaGreatDoor
namespace Go.Proofs.YtlhaempecidohaaGreatDoor
/-! ### Names of files -/
def itoaB (i : Nat) : List Nat := if i < 10 then [48 + i] else [48 + i / 10, 48 + i % 10]
def fileN (k : List Nat) (i : Nat) : ByteArray := str (k ++ 46 :: itoaB i)
def logN (i : Nat) : ByteArray := fileN [108, 111, 103] i
def idxN (i : Nat) : ByteArray := fileN [105, 100, 120] i
def flgN (i : Nat) : ByteArray := fileN [102, 108, 103] i
def treeN : ByteArray := ⟨#[116, 114, 101, 101]⟩
def newN : ByteArray := ⟨#[110, 101, 119]⟩
/-- the name under which a file is put aside -/
def badN (s : ByteArray) : ByteArray := str ([98, 97, 100, 46, 48, 46] ++ ofStr s)
/-- names that no file has that was put aside -/
def Nm0 : List ByteArray := (List.range 16).map logN ++ (List.range 16).map idxN ++ (List.range 16).map flgN ++ [treeN, newN]
def Nm : List ByteArray := Nm0 ++ Nm0.map badN
theorem names_inj : ∀ i < 16, ∀ j < 16, (logN i = logN j → i = j) ∧ (idxN i = idxN j → i = j) ∧ (flgN i = flgN j → i = j) ∧ logN i ≠ idxN j ∧ logN i ≠ flgN j ∧ idxN i ≠ flgN j := by decide +kernel
theorem names_apart : ∀ i < 16, logN i ≠ treeN ∧ logN i ≠ newN ∧ idxN i ≠ treeN ∧ idxN i ≠ newN ∧ flgN i ≠ treeN ∧ flgN i ≠ newN := by decide +kernel
theorem new_tree : newN ≠ treeN := by decide
theorem names_in (i : Nat) (h : i < 16) : logN i ∈ Nm0 ∧ idxN i ∈ Nm0 ∧ flgN i ∈ Nm0 := by
  have m : ∀ f : Nat → ByteArray, f i ∈ (List.range 16).map f := fun f => List.mem_map.2 ⟨i, List.mem_range.2 h, rfl⟩
  unfold Nm0
  simp only [List.mem_append]
  exact ⟨.inl (.inl (.inl (m _))), .inl (.inl (.inr (m _))), .inl (.inr (m _))⟩
theorem tree_in : treeN ∈ Nm0 := List.mem_append_right _ (by simp)
theorem new_in : newN ∈ Nm0 := List.mem_append_right _ (by simp)
theorem nm0_cases {s : ByteArray} (h : s ∈ Nm0) : (∃ i < 16, s = logN i ∨ s = idxN i ∨ s = flgN i) ∨ s = treeN ∨ s = newN := by
  unfold Nm0 at h
  simp only [List.mem_append, List.mem_map, List.mem_range, List.mem_cons, List.not_mem_nil, or_false] at h
  rcases h with ((⟨i, hi, rfl⟩ | ⟨i, hi, rfl⟩) | ⟨i, hi, rfl⟩) | h
  · exact .inl ⟨i, hi, .inl rfl⟩
  · exact .inl ⟨i, hi, .inr (.inl rfl)⟩
  · exact .inl ⟨i, hi, .inr (.inr rfl)⟩
  · exact .inr h
theorem Nm0_head : ∀ s ∈ Nm0, (ofStr s).head? ≠ some 98 := by decide +kernel
theorem ofStr_bad (s : ByteArray) : ofStr (badN s) = [98, 97, 100, 46, 48, 46] ++ ofStr s := by
  refine ofStr_str (fun x hx => ?_)
  rcases List.mem_append.1 hx with h | h
  · exact (by decide : ∀ y ∈ [98, 97, 100, 46, 48, 46], y < 256) x h
  · exact ofStr_lt s x h
theorem bad_inj {s t : ByteArray} (h : badN s = badN t) : s = t := by
  have := congrArg ofStr h
  rw [ofStr_bad, ofStr_bad, List.append_cancel_left_eq] at this
  rw [← str_ofStr s, this, str_ofStr]
theorem bad_ne {s t : ByteArray} (h : t ∈ Nm0) : badN s ≠ t := fun e => by
  have := Nm0_head t h
  rw [← e, ofStr_bad] at this
  simp at this
theorem bad_nin (s : ByteArray) : badN s ∉ Nm0 := fun h => bad_ne h rfl
/-- names that files may have -/
def rightN (s : ByteArray) : Bool := decide (1 ≤ s.size) && decide (s.size ≤ 40) && (ofStr s).all fun c => (decide (97 ≤ c) && decide (c ≤ 122)) || (decide (48 ≤ c) && decide (c ≤ 57)) || decide (c = 46)
theorem Nm_right : ∀ s ∈ Nm, rightN s = true := by decide +kernel
theorem Nm0_sub {s : ByteArray} (h : s ∈ Nm0) : s ∈ Nm := List.mem_append_left _ h
theorem bad_sub {s : ByteArray} (h : s ∈ Nm0) : badN s ∈ Nm := List.mem_append_right _ (List.mem_map.2 ⟨s, h, rfl⟩)
theorem right_size {s : ByteArray} (h : rightN s = true) : s.size ≤ 40 := by
  unfold rightN at h
  simp only [Bool.and_eq_true, decide_eq_true_eq] at h
  exact h.1.2
/-! ### A disk of which one file has turned -/
def Upd (F F' : DiskF) (n : ByteArray) (v : Option FileS) : Prop := ∀ s, AL.get F' s = if s = n then v else AL.get F s
theorem Upd.same {F F' : DiskF} {n : ByteArray} {v : Option FileS} (h : Upd F F' n v) : AL.get F' n = v := by rw [h, if_pos rfl]
theorem Upd.other {F F' : DiskF} {n s : ByteArray} {v : Option FileS} (h : Upd F F' n v) (hs : s ≠ n) : AL.get F' s = AL.get F s := by rw [h, if_neg hs]
theorem Upd.put (F : DiskF) (n : ByteArray) (f : FileS) : Upd F (AL.put F n f) n (some f) := fun s => AL.get_put F n s f
theorem Upd.del {F : DiskF} (hn : (AL.keys F).Nodup) (n : ByteArray) : Upd F (AL.del F n) n none := fun s => AL.get_del hn n s
def lenF (v : Option FileS) : Nat := (v.map fun f => f.b.length).getD 0
theorem total_of_get {F G : DiskF} (hF : (AL.keys F).Nodup) (hG : (AL.keys G).Nodup) (h : ∀ n, AL.get F n = AL.get G n) : F.total = G.total := AL.total_perm (AL.perm_of_get hF hG h)
theorem Upd.total {F F' : DiskF} {n : ByteArray} {v : Option FileS} (h : Upd F F' n v) (hF : (AL.keys F).Nodup) (hF' : (AL.keys F').Nodup) : F'.total + lenF (AL.get F n) = F.total + lenF v := by
  cases v with
  | none =>
    have e := total_of_get hF' (AL.nodup_del hF n) (fun s => by rw [h, AL.get_del hF])
    have := AL.total_del F n
    unfold AL.lenAt at this
    unfold lenF
    simp only [Option.map_none, Option.getD_none]
    omega
  | some f =>
    have e := total_of_get hF' (AL.nodup_put hF n f) (fun s => by rw [h, AL.get_put])
    have := AL.total_put F n f
    unfold AL.lenAt at this
    unfold lenF
    simp only [Option.map_some, Option.getD_some]
    omega
/-! ### Mailboxes on a disk -/
structure BoxSt where
  ns : List Note
  f : FlgS
def BoxSt.l (b : BoxSt) : LogS := readS b.ns
def BoxSt.idx (b : BoxSt) : IdxS := ofI (readS b.ns) (logB b.ns).length
abbrev Boxes := List (Nat × BoxSt)
def Boxes.places (bs : Boxes) : List PlaceS := bs.map fun p => (p.1, p.2.l.name)
def Boxes.nums (bs : Boxes) : List Nat := bs.map (·.1)
/-- all files are safe, and have names of a list -/
def Names (L : List ByteArray) (F : DiskF) : Prop := ∀ s f, AL.get F s = some f → s ∈ L ∧ f = safeF f.b
/-- the mailboxes bs, and no other log; the index 0 may be another one -/
structure Good (F : DiskF) (bs : Boxes) (h : Option (List Nat)) : Prop where
  names : Names Nm F
  up : bs.nums.Pairwise (· < ·)
  few : ∀ p ∈ bs, p.1 < 16
  log : ∀ p ∈ bs, AL.get F (logN p.1) = some (safeF (logB p.2.ns))
  flg : ∀ p ∈ bs, AL.get F (flgN p.1) = some (safeF (flgB p.2.f))
  idx : ∀ p ∈ bs, (p.1 ≠ 0 ∨ h = none) → AL.get F (idxN p.1) = some (safeF (idxB p.2.idx))
  idx0 : ∀ b, h = some b → AL.get F (idxN 0) = some (safeF b)
  whole : ∀ p ∈ bs, Whole p.2.ns p.2.f
  logs : ∀ n, n < 16 → n ∉ bs.nums → AL.get F (logN n) = none
  new : AL.get F newN = none
  apart : (bs.map fun p => p.2.l.name).Nodup
  first : ∃ b r, bs = (0, b) :: r ∧ b.l.name = inboxS
/-- no pages of other mailboxes -/
def Bare (F : DiskF) (bs : Boxes) : Prop := ∀ n, n < 16 → n ∉ bs.nums → AL.get F (idxN n) = none ∧ AL.get F (flgN n) = none
/-- a store that nothing has become of -/
structure Rest (F : DiskF) (bs : Boxes) : Prop where
  good : Good F bs none
  bare : Bare F bs
  tree : AL.get F treeN = some (safeF (treeB bs.places))
  near : bs.nums = List.range bs.length
  plain : Names Nm0 F
theorem Rest.nobad {F : DiskF} {bs : Boxes} (h : Rest F bs) (s : ByteArray) : AL.get F (badN s) = none := by
  cases hg : AL.get F (badN s) with
  | none => rfl
  | some f => exact absurd (h.plain _ _ hg).1 (bad_nin s)
end Go.Proofs.YtlhaempecidohaaGreatDoor
namespace Go.Proofs.YtlhaempecidohaaGreatDoor
/-! ### Notes behind a log -/
def BoxSt.more (b : BoxSt) (l : List Note) (marks : List (Nat × Int)) : BoxSt := ⟨b.ns ++ l, flagsOf (readS (b.ns ++ l)) marks⟩
def BoxSt.may (b : BoxSt) (l : List Note) (marks : List (Nat × Int)) : Bool := pagesOk (readS (b.ns ++ l)) (logB (b.ns ++ l)).length marks
theorem Formed.append {a b : List Note} (ha : Formed a) (hb : Formed b) : Formed (a ++ b) := fun n hn => by
  rcases List.mem_append.1 hn with h | h
  · exact ha n h
  · exact hb n h
theorem flagOf_fst (marks : List (Nat × Int)) (m : Nat × Int) : (flagOf marks m).1 = m.1 := by
  unfold flagOf
  split <;> rfl
theorem whole_more {b : BoxSt} {l : List Note} {marks : List (Nat × Int)} (h : Formed b.ns) (hl : Formed l) (hm : b.may l marks = true) : Whole (b.more l marks).ns (b.more l marks).f := by
  unfold BoxSt.may pagesOk at hm
  simp only [Bool.and_eq_true] at hm
  have hF := h.append hl
  have hs := rightIdx_sound hm.2
  have hof : ofF (readS (b.ns ++ l)) = ⟨(readS (b.ns ++ l)).epoch, (readS (b.ns ++ l)).live.map fun x => (x.msg.uid, x.msg.flags)⟩ := by unfold ofF; rw [if_pos hs]
  have hok := readS_ok hF
  have hu : (flagsOf (readS (b.ns ++ l)) marks).L.map (·.1) = (readS (b.ns ++ l)).live.map (·.msg.uid) := by
    unfold flagsOf
    rw [hof]
    simp only [List.map_map]
    exact List.map_congr_left (fun x _ => by simp only [Function.comp, flagOf_fst])
  refine ⟨hF, hm.2, hm.1, ⟨?_, ?_⟩, ?_, hu⟩
  · show (ofF (readS (b.ns ++ l))).epoch < _
    rw [hof]; exact hok.epoch
  · intro e he
    have : e.1 ∈ (flagsOf (readS (b.ns ++ l)) marks).L.map (·.1) := List.mem_map.2 ⟨e, he, rfl⟩
    rw [hu] at this
    obtain ⟨x, hx, hxe⟩ := List.mem_map.1 this
    rw [← hxe]
    exact (hok.live x hx).2.uid
  · show (ofF (readS (b.ns ++ l))).epoch = _
    rw [hof]; rfl
/-- flags that a mailbox has fit its log -/
theorem flgFrom_map {nx : Nat} (mk : List (Nat × Int)) (hm : ∀ m ∈ mk, 0 ≤ m.2 ∧ m.2 ≤ 31) : ∀ {l : List LiveS} {last : Nat}, idxFrom nx last (l.map fun x => (x.msg.uid, x.at_)) = true → (∀ x ∈ l, rightMsg x.msg = true) →
    flgFrom last ((l.map fun x => (x.msg.uid, x.msg.flags)).map (flagOf mk)) = true
  | [], _, _, _ => rfl
  | x :: l, last, h, hr => by
    simp only [List.map_cons, idxFrom, Bool.and_eq_true, decide_eq_true_eq] at h
    have ih := flgFrom_map mk hm h.2 (fun y hy => hr y (by simp [hy]))
    have hx := hr x (by simp)
    simp only [rightMsg, flagged, Bool.and_eq_true, decide_eq_true_eq] at hx
    have hf : (flagOf mk (x.msg.uid, x.msg.flags)).1 = x.msg.uid := flagOf_fst _ _
    have hg : 0 ≤ (flagOf mk (x.msg.uid, x.msg.flags)).2 ∧ (flagOf mk (x.msg.uid, x.msg.flags)).2 ≤ 31 := by
      unfold flagOf
      split
      · rename_i y hy
        exact hm y (List.mem_of_find?_eq_some hy)
      · exact ⟨hx.1.2.1, hx.1.2.2⟩
    simp only [List.map_cons, flgFrom, Bool.and_eq_true, decide_eq_true_eq, hf]
    exact ⟨⟨⟨h.1.1.1, hg.1⟩, hg.2⟩, ih⟩
theorem Whole.pagesOk {ns : List Note} {f : FlgS} (h : Whole ns f) {mk : List (Nat × Int)} (hm : ∀ m ∈ mk, 0 ≤ m.2 ∧ m.2 ≤ 31) : pagesOk (readS ns) (logB ns).length mk = true := by
  obtain ⟨_, p2, _, _, p5, p6⟩ := h.parts
  have hok := readS_ok h.formed
  unfold YtlhaempecidohaaGreatDoor.pagesOk flagsOf
  rw [h.idx, Bool.and_true, h.ofF]
  unfold rightFlg
  simp only [Bool.and_eq_true, decide_eq_true_eq, List.length_map]
  exact ⟨⟨flgFrom_map mk hm p6 (fun x hx => (hok.live x hx).1), p2⟩, p5⟩
/-- the same log, its flags laid anew -/
def BoxSt.anew (b : BoxSt) : BoxSt := ⟨b.ns, flagsOf (readS b.ns) b.f.L⟩
theorem whole_anew {b : BoxSt} (h : Whole b.ns b.f) : Whole b.anew.ns b.anew.f := by
  have := whole_more (b := b) (l := []) (marks := b.f.L) h.formed (fun n hn => by cases hn) (by
    unfold BoxSt.may
    rw [List.append_nil]
    exact h.pagesOk h.flags)
  unfold BoxSt.more at this
  simp only [List.append_nil] at this
  exact this
def Boxes.turn (bs : Boxes) (n : Nat) (b : BoxSt) : Boxes := bs.map fun p => if p.1 = n then (n, b) else p
theorem turn_nums (bs : Boxes) (n : Nat) (b : BoxSt) : (bs.turn n b).nums = bs.nums := by
  unfold Boxes.turn Boxes.nums
  rw [List.map_map]
  refine List.map_congr_left (fun p _ => ?_)
  simp only [Function.comp]
  split
  · rename_i h; exact h.symm
  · rfl
theorem turn_mem {bs : Boxes} {n : Nat} {b : BoxSt} {p : Nat × BoxSt} (h : p ∈ bs.turn n b) : p = (n, b) ∨ (p ∈ bs ∧ p.1 ≠ n) := by
  obtain ⟨q, hq, rfl⟩ := List.mem_map.1 h
  split
  · exact .inl rfl
  · rename_i hne; exact .inr ⟨hq, hne⟩
theorem turn_names {bs : Boxes} {n : Nat} {b : BoxSt} (h : ∀ p ∈ bs, p.1 = n → p.2.l.name = b.l.name) : ((bs.turn n b).map fun p => p.2.l.name) = bs.map fun p => p.2.l.name := by
  unfold Boxes.turn
  rw [List.map_map]
  refine List.map_congr_left (fun p hp => ?_)
  simp only [Function.comp]
  split
  · rename_i e; exact (h p hp e).symm
  · rfl
theorem turn_places {bs : Boxes} {n : Nat} {b : BoxSt} (h : ∀ p ∈ bs, p.1 = n → p.2.l.name = b.l.name) : (bs.turn n b).places = bs.places := by
  unfold Boxes.turn Boxes.places
  rw [List.map_map]
  refine List.map_congr_left (fun p hp => ?_)
  simp only [Function.comp]
  split
  · rename_i e; rw [h p hp e, e]
  · rfl
theorem uniq {bs : Boxes} (hu : bs.nums.Pairwise (· < ·)) {n : Nat} {b : BoxSt} (hb : (n, b) ∈ bs) : ∀ p ∈ bs, p.1 = n → p = (n, b) := by
  intro p hp e
  have hnd : bs.nums.Nodup := hu.imp (fun h => Nat.ne_of_lt h)
  obtain ⟨i, hi⟩ := List.mem_iff_getElem?.1 hp
  obtain ⟨j, hj⟩ := List.mem_iff_getElem?.1 hb
  have e1 : bs.nums[i]? = some n := by unfold Boxes.nums; rw [List.getElem?_map, hi, ← e]; rfl
  have e2 : bs.nums[j]? = some n := by unfold Boxes.nums; rw [List.getElem?_map, hj]; rfl
  have hij : i = j := by
    have hi' := (List.getElem?_eq_some_iff.1 e1).1
    have hj' := (List.getElem?_eq_some_iff.1 e2).1
    exact (List.getElem_inj (h₀ := hi') (h₁ := hj') hnd).1 (by rw [(List.getElem?_eq_some_iff.1 e1).2, (List.getElem?_eq_some_iff.1 e2).2])
  rw [hij, hj] at hi
  cases hi
  rfl
theorem nums_mem {bs : Boxes} {p : Nat × BoxSt} (h : p ∈ bs) : p.1 ∈ bs.nums := List.mem_map.2 ⟨p, h, rfl⟩
/-! ### What leaves the mailboxes as they were -/
theorem Good.of_same {F F' : DiskF} {bs : Boxes} {x : Option (List Nat)} (h : Good F bs x) (hN : Names Nm F') (hlog : ∀ n < 16, AL.get F' (logN n) = AL.get F (logN n))
    (hpg : ∀ p ∈ bs, AL.get F' (idxN p.1) = AL.get F (idxN p.1) ∧ AL.get F' (flgN p.1) = AL.get F (flgN p.1)) (hnew : AL.get F' newN = none) : Good F' bs x := by
  obtain ⟨b0, r, e1, e2⟩ := h.first
  refine ⟨hN, h.up, h.few, fun p hp => ?_, fun p hp => ?_, fun p hp hx => ?_, fun b hb => ?_, h.whole, fun n hn hm => ?_, hnew, h.apart, h.first⟩
  · rw [hlog _ (h.few p hp)]; exact h.log p hp
  · rw [(hpg p hp).2]; exact h.flg p hp
  · rw [(hpg p hp).1]; exact h.idx p hp hx
  · have := hpg (0, b0) (by rw [e1]; simp)
    rw [this.1]; exact h.idx0 b hb
  · rw [hlog n hn]; exact h.logs n hn hm
theorem Names.upd {L : List ByteArray} {F F' : DiskF} {n : ByteArray} {v : Option FileS} (h : Names L F) (hu : Upd F F' n v) (hn : n ∈ L) (hv : ∀ f, v = some f → f = safeF f.b) : Names L F' := fun s f hf => by
  rw [hu] at hf
  split at hf
  · rename_i e; rw [e]; exact ⟨hn, hv f hf⟩
  · exact h s f hf
theorem safe_safe (b : List Nat) : safeF b = safeF (safeF b).b := rfl
theorem Names.mono {F : DiskF} (h : Names Nm0 F) : Names Nm F := fun s f hf => ⟨Nm0_sub (h s f hf).1, (h s f hf).2⟩
/-! ### A log, its flags, its index, laid -/
/-- a box's three files are these, all others as they were -/
def Laid (F F' : DiskF) (n : Nat) (b : BoxSt) : Prop :=
  ∀ s, AL.get F' s = if s = idxN n then some (safeF (idxB b.idx)) else if s = flgN n then some (safeF (flgB b.f)) else if s = logN n then some (safeF (logB b.ns)) else AL.get F s
section
variable {F F' : DiskF} {n : Nat} {b : BoxSt}
theorem Laid.three (h : Laid F F' n b) (h16 : n < 16) : AL.get F' (logN n) = some (safeF (logB b.ns)) ∧ AL.get F' (idxN n) = some (safeF (idxB b.idx)) ∧ AL.get F' (flgN n) = some (safeF (flgB b.f)) := by
  obtain ⟨_, _, _, i1, i2, i3⟩ := names_inj n h16 n h16
  refine ⟨?_, ?_, ?_⟩
  · rw [h, if_neg i1, if_neg i2, if_pos rfl]
  · rw [h, if_pos rfl]
  · rw [h, if_neg (fun e => i3 e.symm), if_pos rfl]
theorem Laid.other (h : Laid F F' n b) (h16 : n < 16) {k : Nat} (k16 : k < 16) (hk : k ≠ n) :
    AL.get F' (logN k) = AL.get F (logN k) ∧ AL.get F' (idxN k) = AL.get F (idxN k) ∧ AL.get F' (flgN k) = AL.get F (flgN k) := by
  obtain ⟨j1, j2, j3, i1, i2, i3⟩ := names_inj k k16 n h16
  obtain ⟨_, _, _, m1, m2, m3⟩ := names_inj n h16 k k16
  refine ⟨?_, ?_, ?_⟩
  · rw [h, if_neg i1, if_neg i2, if_neg (fun e => hk (j1 e))]
  · rw [h, if_neg (fun e => hk (j2 e)), if_neg i3, if_neg (fun e => m1 e.symm)]
  · rw [h, if_neg (fun e => m3 e.symm), if_neg (fun e => hk (j3 e)), if_neg (fun e => m2 e.symm)]
theorem Laid.rest (h : Laid F F' n b) {s : ByteArray} (h1 : s ≠ logN n) (h2 : s ≠ idxN n) (h3 : s ≠ flgN n) : AL.get F' s = AL.get F s := by rw [h, if_neg h2, if_neg h3, if_neg h1]
theorem Laid.tree (h : Laid F F' n b) (h16 : n < 16) : AL.get F' treeN = AL.get F treeN := by
  obtain ⟨t1, _, t2, _, t3, _⟩ := names_apart n h16
  exact h.rest (fun e => t1 e.symm) (fun e => t2 e.symm) (fun e => t3 e.symm)
theorem Laid.new (h : Laid F F' n b) (h16 : n < 16) : AL.get F' newN = AL.get F newN := by
  obtain ⟨_, t1, _, t2, _, t3⟩ := names_apart n h16
  exact h.rest (fun e => t1 e.symm) (fun e => t2 e.symm) (fun e => t3 e.symm)
theorem Laid.names (h : Laid F F' n b) {L : List ByteArray} (hL : logN n ∈ L ∧ idxN n ∈ L ∧ flgN n ∈ L) (hN : Names L F) : Names L F' := fun s f hf => by
  rw [h] at hf
  split at hf
  · rename_i e; cases hf; rw [e]; exact ⟨hL.2.1, rfl⟩
  · split at hf
    · rename_i e; cases hf; rw [e]; exact ⟨hL.2.2, rfl⟩
    · split at hf
      · rename_i e; cases hf; rw [e]; exact ⟨hL.1, rfl⟩
      · exact hN s f hf
end
/-- a mailbox laid anew -/
theorem Good.laid {F F' : DiskF} {bs : Boxes} {x : Option (List Nat)} (h : Good F bs x) {n : Nat} {b b' : BoxSt} (hb : (n, b) ∈ bs) (hl : Laid F F' n b') (hw : Whole b'.ns b'.f) (hname : b'.l.name = b.l.name) :
    Good F' (bs.turn n b') (if n = 0 then none else x) := by
  have h16 := h.few _ hb
  have hun := uniq h.up hb
  obtain ⟨g1, g2, g3⟩ := hl.three h16
  have hnames : ∀ p ∈ bs, p.1 = n → p.2.l.name = b'.l.name := fun p hp e => by rw [hun p hp e, hname]
  have i16 := names_in n h16
  refine ⟨hl.names ⟨Nm0_sub i16.1, Nm0_sub i16.2.1, Nm0_sub i16.2.2⟩ h.names, by rw [turn_nums]; exact h.up, fun p hp => ?_, fun p hp => ?_, fun p hp => ?_, fun p hp hx => ?_, fun c hc => ?_, fun p hp => ?_, fun k hk hnk => ?_, ?_, ?_, ?_⟩
  · rcases turn_mem hp with rfl | ⟨hp, _⟩
    · exact h16
    · exact h.few p hp
  · rcases turn_mem hp with rfl | ⟨hp, hne⟩
    · exact g1
    · rw [(hl.other h16 (h.few p hp) hne).1]; exact h.log p hp
  · rcases turn_mem hp with rfl | ⟨hp, hne⟩
    · exact g3
    · rw [(hl.other h16 (h.few p hp) hne).2.2]; exact h.flg p hp
  · rcases turn_mem hp with rfl | ⟨hp, hne⟩
    · exact g2
    · rw [(hl.other h16 (h.few p hp) hne).2.1]
      refine h.idx p hp ?_
      rcases hx with hx | hx
      · exact .inl hx
      · by_cases h0 : n = 0
        · exact .inl (fun e => hne (e.trans h0.symm))
        · rw [if_neg h0] at hx; exact .inr hx
  · by_cases h0 : n = 0
    · rw [if_pos h0] at hc; cases hc
    · rw [if_neg h0] at hc
      rw [(hl.other h16 (by omega) (fun e => h0 e.symm)).2.1]
      exact h.idx0 c hc
  · rcases turn_mem hp with rfl | ⟨hp, _⟩
    · exact hw
    · exact h.whole p hp
  · rw [turn_nums] at hnk
    have hne : k ≠ n := fun e => hnk (by rw [e]; exact nums_mem hb)
    rw [(hl.other h16 hk hne).1]
    exact h.logs k hk hnk
  · rw [hl.new h16]; exact h.new
  · rw [turn_names hnames]; exact h.apart
  · obtain ⟨b0, r, e1, e2⟩ := h.first
    by_cases h0 : n = 0
    · subst h0
      refine ⟨b', r.map fun p => if p.1 = 0 then (0, b') else p, by rw [e1]; simp [Boxes.turn], ?_⟩
      have := hun (0, b0) (by rw [e1]; simp) rfl
      cases this
      rw [hname]; exact e2
    · refine ⟨b0, r.map fun p => if p.1 = n then (n, b') else p, by rw [e1]; simp [Boxes.turn]; intro e; exact absurd e.symm h0, e2⟩
theorem Rest.laid {F F' : DiskF} {bs : Boxes} (h : Rest F bs) {n : Nat} {b b' : BoxSt} (hb : (n, b) ∈ bs) (hl : Laid F F' n b') (hw : Whole b'.ns b'.f) (hname : b'.l.name = b.l.name) : Rest F' (bs.turn n b') := by
  have h16 := h.good.few _ hb
  have hun := uniq h.good.up hb
  have hg := h.good.laid hb hl hw hname
  have hnames : ∀ p ∈ bs, p.1 = n → p.2.l.name = b'.l.name := fun p hp e => by rw [hun p hp e, hname]
  rw [ite_self] at hg
  refine ⟨hg, fun k hk hnk => ?_, ?_, ?_, hl.names (names_in n h16) h.plain⟩
  · rw [turn_nums] at hnk
    have hne : k ≠ n := fun e => hnk (by rw [e]; exact nums_mem hb)
    obtain ⟨_, g2, g3⟩ := hl.other h16 hk hne
    rw [g2, g3]
    exact h.bare k hk hnk
  · rw [hl.tree h16, h.tree, turn_places hnames]
  · rw [turn_nums, h.near]; simp [Boxes.turn]
/-! ### A new mailbox -/
theorem Rest.more {F F1 F' : DiskF} {bs : Boxes} (h : Rest F bs) (h16 : bs.length < 16) {b : BoxSt} (hl : Laid F F1 bs.length b) (hw : Whole b.ns b.f) (hnew : b.l.name ∉ bs.map fun p => p.2.l.name)
    (ht : Upd F1 F' treeN (some (safeF (treeB (Boxes.places (bs ++ [(bs.length, b)])))))) : Rest F' (bs ++ [(bs.length, b)]) := by
  obtain ⟨g1, g2, g3⟩ := hl.three h16
  have hnum : ∀ p ∈ bs, p.1 < bs.length := fun p hp => by
    have := nums_mem hp
    rw [h.near] at this
    exact List.mem_range.1 this
  have ha := names_apart
  have hot : ∀ k, k < 16 → AL.get F' (logN k) = AL.get F1 (logN k) ∧ AL.get F' (idxN k) = AL.get F1 (idxN k) ∧ AL.get F' (flgN k) = AL.get F1 (flgN k) := fun k hk =>
    ⟨ht.other (ha k hk).1, ht.other (ha k hk).2.2.1, ht.other (ha k hk).2.2.2.2.1⟩
  have hnums : Boxes.nums (bs ++ [(bs.length, b)]) = List.range (bs.length + 1) := by
    unfold Boxes.nums at *
    have := h.near
    unfold Boxes.nums at this
    rw [List.map_append, this, List.range_succ]
    rfl
  have hpl : Names Nm0 F' := (hl.names (names_in _ h16) h.plain).upd ht tree_in (fun f hf => by cases hf; rfl)
  have hin : ∀ p ∈ bs ++ [(bs.length, b)], p ∈ bs ∨ p = (bs.length, b) := fun p hp => by
    rcases List.mem_append.1 hp with h | h
    · exact .inl h
    · exact .inr (List.mem_singleton.1 h)
  have hnn : ∀ k, k ∉ Boxes.nums (bs ++ [(bs.length, b)]) → k ≠ bs.length ∧ k ∉ bs.nums := fun k hk => by
    rw [hnums] at hk
    rw [h.near]
    simp only [List.mem_range] at hk ⊢
    omega
  refine ⟨⟨hpl.mono, ?_, fun p hp => ?_, fun p hp => ?_, fun p hp => ?_, fun p hp _ => ?_, fun c hc => (by cases hc), fun p hp => ?_, fun k hk hnk => ?_, ?_, ?_, ?_⟩, fun k hk hnk => ?_, ?_, ?_, hpl⟩
  · rw [hnums]; exact List.pairwise_lt_range
  · rcases hin p hp with hp | rfl
    · exact h.good.few p hp
    · exact h16
  · rcases hin p hp with hp | rfl
    · rw [(hot _ (h.good.few p hp)).1, (hl.other h16 (h.good.few p hp) (by have := hnum p hp; omega)).1]; exact h.good.log p hp
    · rw [(hot _ h16).1]; exact g1
  · rcases hin p hp with hp | rfl
    · rw [(hot _ (h.good.few p hp)).2.2, (hl.other h16 (h.good.few p hp) (by have := hnum p hp; omega)).2.2]; exact h.good.flg p hp
    · rw [(hot _ h16).2.2]; exact g3
  · rcases hin p hp with hp | rfl
    · rw [(hot _ (h.good.few p hp)).2.1, (hl.other h16 (h.good.few p hp) (by have := hnum p hp; omega)).2.1]; exact h.good.idx p hp (.inr rfl)
    · rw [(hot _ h16).2.1]; exact g2
  · rcases hin p hp with hp | rfl
    · exact h.good.whole p hp
    · exact hw
  · obtain ⟨k1, k2⟩ := hnn k hnk
    rw [(hot k hk).1, (hl.other h16 hk k1).1]; exact h.good.logs k hk k2
  · rw [ht.other new_tree, hl.new h16]; exact h.good.new
  · rw [List.map_append, List.nodup_append]
    refine ⟨h.good.apart, by simp, ?_⟩
    intro a h1 c h2 e
    rw [List.map_singleton, List.mem_singleton] at h2
    exact hnew (by rw [← h2, ← e]; exact h1)
  · obtain ⟨b0, r, e1, e2⟩ := h.good.first
    exact ⟨b0, r ++ [(bs.length, b)], by rw [e1]; rfl, e2⟩
  · obtain ⟨k1, k2⟩ := hnn k hnk
    obtain ⟨_, q2, q3⟩ := hl.other h16 hk k1
    rw [(hot k hk).2.1, (hot k hk).2.2, q2, q3]; exact h.bare k hk k2
  · exact ht.same
  · rw [hnums]; simp
theorem Rest.first {F F1 F' : DiskF} (h : ∀ s, AL.get F s = none) {b : BoxSt} (hl : Laid F F1 0 b) (hw : Whole b.ns b.f) (hname : b.l.name = inboxS)
    (ht : Upd F1 F' treeN (some (safeF (treeB (Boxes.places [(0, b)]))))) : Rest F' [(0, b)] := by
  have h16 : 0 < 16 := by decide
  obtain ⟨g1, g2, g3⟩ := hl.three h16
  have ha := names_apart
  have hot : ∀ k, k < 16 → AL.get F' (logN k) = AL.get F1 (logN k) ∧ AL.get F' (idxN k) = AL.get F1 (idxN k) ∧ AL.get F' (flgN k) = AL.get F1 (flgN k) := fun k hk =>
    ⟨ht.other (ha k hk).1, ht.other (ha k hk).2.2.1, ht.other (ha k hk).2.2.2.2.1⟩
  have hpl : Names Nm0 F' := (hl.names (names_in _ h16) (fun s f hf => by rw [h] at hf; cases hf)).upd ht tree_in (fun f hf => by cases hf; rfl)
  refine ⟨⟨hpl.mono, by simp [Boxes.nums], fun p hp => ?_, fun p hp => ?_, fun p hp => ?_, fun p hp _ => ?_, fun c hc => (by cases hc), fun p hp => ?_, fun k hk hnk => ?_, ?_, by simp, ⟨b, [], rfl, hname⟩⟩, fun k hk hnk => ?_, ht.same, rfl, hpl⟩
  · rw [List.mem_singleton.1 hp]; exact h16
  · rw [List.mem_singleton.1 hp, (hot _ h16).1]; exact g1
  · rw [List.mem_singleton.1 hp, (hot _ h16).2.2]; exact g3
  · rw [List.mem_singleton.1 hp, (hot _ h16).2.1]; exact g2
  · rw [List.mem_singleton.1 hp]; exact hw
  · have k0 : k ≠ 0 := fun e => hnk (by simp [Boxes.nums, e])
    rw [(hot k hk).1, (hl.other h16 hk k0).1]; exact h _
  · rw [ht.other new_tree, hl.new h16]; exact h _
  · have k0 : k ≠ 0 := fun e => hnk (by simp [Boxes.nums, e])
    obtain ⟨_, q2, q3⟩ := hl.other h16 hk k0
    rw [(hot k hk).2.1, (hot k hk).2.2, q2, q3]; exact ⟨h _, h _⟩
/-! ### A harm of the index 0; what is put aside -/
theorem Rest.harm {F F' : DiskF} {bs : Boxes} (h : Rest F bs) {b : List Nat} (hu : Upd F F' (idxN 0) (some (safeF b))) : Good F' bs (some b) ∧ Bare F' bs ∧ AL.get F' treeN = some (safeF (treeB bs.places)) ∧ Names Nm0 F' := by
  have h0 : 0 < 16 := by decide
  obtain ⟨b0, r, e1, e2⟩ := h.good.first
  have hpl : Names Nm0 F' := h.plain.upd hu (names_in 0 h0).2.1 (fun f hf => by cases hf; rfl)
  have hlog : ∀ n, n < 16 → AL.get F' (logN n) = AL.get F (logN n) := fun n hn => hu.other (names_inj n hn 0 h0).2.2.2.1
  have hflg : ∀ n, n < 16 → AL.get F' (flgN n) = AL.get F (flgN n) := fun n hn => hu.other (fun e => (names_inj 0 h0 n hn).2.2.2.2.2 e.symm)
  have hidx : ∀ n, n < 16 → n ≠ 0 → AL.get F' (idxN n) = AL.get F (idxN n) := fun n hn hne => hu.other (fun e => hne ((names_inj n hn 0 h0).2.1 e))
  refine ⟨⟨hpl.mono, h.good.up, h.good.few, fun p hp => ?_, fun p hp => ?_, fun p hp hx => ?_, fun c hc => ?_, h.good.whole, fun k hk hnk => ?_, ?_, h.good.apart, h.good.first⟩, fun k hk hnk => ?_, ?_, hpl⟩
  · rw [hlog _ (h.good.few p hp)]; exact h.good.log p hp
  · rw [hflg _ (h.good.few p hp)]; exact h.good.flg p hp
  · rcases hx with hx | hx
    · rw [hidx _ (h.good.few p hp) hx]; exact h.good.idx p hp (.inr rfl)
    · cases hx
  · cases hc; exact hu.same
  · rw [hlog k hk]; exact h.good.logs k hk hnk
  · rw [hu.other (fun e => (names_apart 0 h0).2.2.2.1 e.symm)]; exact h.good.new
  · have k0 : k ≠ 0 := fun e => hnk (by rw [e1]; simp [Boxes.nums, e])
    rw [hidx k hk k0, hflg k hk]; exact h.bare k hk hnk
  · rw [hu.other (fun e => (names_apart 0 h0).2.2.1 e.symm)]; exact h.tree
/-- a file put aside -/
def Moved (F F' : DiskF) (a b : ByteArray) : Prop := ∀ s, AL.get F' s = if s = a then none else if s = b then AL.get F a else AL.get F s
theorem Moved.names {F F' : DiskF} {a b : ByteArray} (h : Moved F F' a b) (hN : Names Nm F) (hb : b ∈ Nm) : Names Nm F' := fun s f hf => by
  rw [h] at hf
  split at hf
  · cases hf
  · split at hf
    · rename_i e; rw [e]; exact ⟨hb, (hN _ _ hf).2⟩
    · exact hN s f hf
theorem Moved.stays {F F' : DiskF} {a s : ByteArray} (h : Moved F F' a (badN a)) (hs : s ∈ Nm0) (hne : s ≠ a) : AL.get F' s = AL.get F s := by
  rw [h, if_neg hne, if_neg (fun e => bad_ne hs e.symm)]
theorem Moved.bad {F F' : DiskF} {a s : ByteArray} (h : Moved F F' a (badN a)) (ha : a ∈ Nm0) (hne : s ≠ a) : AL.get F' (badN s) = AL.get F (badN s) := by
  rw [h, if_neg (bad_ne ha), if_neg (fun e => hne (bad_inj e))]
theorem Moved.to {F F' : DiskF} {a : ByteArray} (h : Moved F F' a (badN a)) (ha : a ∈ Nm0) : AL.get F' (badN a) = AL.get F a := by rw [h, if_neg (bad_ne ha), if_pos rfl]
def Boxes.less (bs : Boxes) (n : Nat) : Boxes := bs.filter fun p => !decide (p.1 = n)
theorem less_mem {bs : Boxes} {n : Nat} {p : Nat × BoxSt} : p ∈ bs.less n ↔ p ∈ bs ∧ p.1 ≠ n := by simp [Boxes.less]
theorem less_sub (bs : Boxes) (n : Nat) : (bs.less n).Sublist bs := List.filter_sublist
theorem less_nums {bs : Boxes} {n k : Nat} : k ∈ (bs.less n).nums ↔ k ∈ bs.nums ∧ k ≠ n := by
  constructor
  · intro h
    obtain ⟨p, hp, rfl⟩ := List.mem_map.1 h
    exact ⟨nums_mem (less_mem.1 hp).1, (less_mem.1 hp).2⟩
  · rintro ⟨h, hne⟩
    obtain ⟨p, hp, rfl⟩ := List.mem_map.1 h
    exact nums_mem (less_mem.2 ⟨hp, hne⟩)
theorem Good.less {F F' : DiskF} {bs : Boxes} {x : Option (List Nat)} (h : Good F bs x) {n : Nat} (h0 : n ≠ 0) (h16 : n < 16) (hm : Moved F F' (logN n) (badN (logN n))) : Good F' (bs.less n) x := by
  have hi := names_in
  have hb16 : (0 : Nat) < 16 := by decide
  refine ⟨hm.names h.names (bad_sub (hi n h16).1), h.up.sublist ((less_sub bs n).map _), fun p hp => h.few p (less_mem.1 hp).1, fun p hp => ?_, fun p hp => ?_, fun p hp hx => ?_, fun c hc => ?_, fun p hp => h.whole p (less_mem.1 hp).1, fun k hk hnk => ?_, ?_, h.apart.sublist ((less_sub bs n).map _), ?_⟩
  · obtain ⟨hp, hne⟩ := less_mem.1 hp
    rw [hm.stays (hi _ (h.few p hp)).1 (fun e => hne ((names_inj _ (h.few p hp) n h16).1 e))]; exact h.log p hp
  · obtain ⟨hp, hne⟩ := less_mem.1 hp
    rw [hm.stays (hi _ (h.few p hp)).2.2 (fun e => (names_inj n h16 _ (h.few p hp)).2.2.2.2.1 e.symm)]; exact h.flg p hp
  · obtain ⟨hp, hne⟩ := less_mem.1 hp
    rw [hm.stays (hi _ (h.few p hp)).2.1 (fun e => (names_inj n h16 _ (h.few p hp)).2.2.2.1 e.symm)]; exact h.idx p hp hx
  · rw [hm.stays (hi 0 hb16).2.1 (fun e => (names_inj n h16 0 hb16).2.2.2.1 e.symm)]; exact h.idx0 c hc
  · by_cases e : k = n
    · rw [e, hm, if_pos rfl]
    · rw [hm.stays (hi k hk).1 (fun e' => e ((names_inj k hk n h16).1 e'))]
      refine h.logs k hk (fun hh => hnk (less_nums.2 ⟨hh, e⟩))
  · rw [hm.stays new_in (fun e => (names_apart n h16).2.1 e.symm)]; exact h.new
  · obtain ⟨b0, r, e1, e2⟩ := h.first
    refine ⟨b0, Boxes.less r n, ?_, e2⟩
    rw [e1]
    unfold Boxes.less
    rw [List.filter_cons, if_pos]
    simp
    omega
/-! ### The tree of mailboxes is right -/
theorem treeFrom_ok : ∀ (l seen : List PlaceS), (∀ p ∈ l, p.1 < 16 ∧ named p.2 = true) → (seen ++ l).Pairwise (fun a b => a.1 < b.1) → ((seen ++ l).map (·.2)).Nodup → treeFrom seen l = true
  | [], _, _, _, _ => rfl
  | p :: r, seen, h1, h2, h3 => by
    obtain ⟨p1, p2⟩ := h1 p (by simp)
    have e : seen ++ p :: r = (seen ++ [p]) ++ r := by simp
    have ih := treeFrom_ok r (seen ++ [p]) (fun q hq => h1 q (by simp [hq])) (by rw [← e]; exact h2) (by rw [← e]; exact h3)
    rw [List.pairwise_append] at h2
    rw [List.map_append, List.nodup_append] at h3
    have hlast : (match seen.getLast? with | none => true | some q => decide (q.1 < p.1)) = true := by
      cases hq : seen.getLast? with
      | none => rfl
      | some q =>
        have hm : q ∈ seen := List.mem_of_getLast? hq
        simpa using h2.2.2 q hm p (by simp)
    have hany : (seen.any fun q => decide (q.2 = p.2)) = false := by
      rw [List.any_eq_false]
      intro q hq e
      exact h3.2.2 q.2 (List.mem_map.2 ⟨q, hq, rfl⟩) p.2 (by simp) (by simpa using e)
    unfold treeFrom
    simp only [Bool.and_eq_true, decide_eq_true_eq, Bool.not_eq_true']
    exact ⟨⟨⟨⟨p1, hlast⟩, p2⟩, hany⟩, ih⟩
theorem Good.rightTree {F : DiskF} {bs : Boxes} {x : Option (List Nat)} (h : Good F bs x) : rightTree bs.places = true := by
  unfold YtlhaempecidohaaGreatDoor.rightTree
  rw [Bool.and_eq_true]
  refine ⟨treeFrom_ok _ [] (fun p hp => ?_) ?_ ?_, ?_⟩
  · obtain ⟨q, hq, rfl⟩ := List.mem_map.1 hp
    exact ⟨h.few q hq, (h.whole q hq).parts.1⟩
  · have := h.up
    unfold Boxes.nums at this
    rw [List.pairwise_map] at this
    rw [List.nil_append]
    unfold Boxes.places
    rw [List.pairwise_map]
    exact this
  · have := h.apart
    rw [List.nil_append]
    unfold Boxes.places
    rw [List.map_map]
    exact this
  · obtain ⟨b, r, rfl, hb⟩ := h.first
    have hap := h.apart
    rw [List.map_cons, List.nodup_cons] at hap
    have hr : (Boxes.places r).filter (fun p => decide (p.2 = inboxS)) = [] := by
      rw [List.filter_eq_nil_iff]
      intro p hp e
      obtain ⟨q, hq, rfl⟩ := List.mem_map.1 hp
      simp only [decide_eq_true_eq] at e
      exact hap.1 (List.mem_map.2 ⟨q, hq, by rw [e, hb]⟩)
    rw [decide_eq_true_eq]
    unfold inboxes
    rw [show Boxes.places ((0, b) :: r) = (0, b.l.name) :: Boxes.places r from rfl, List.filter_cons, if_pos (by rw [hb]; decide), hr]
    rfl
theorem up_len' : ∀ {l : List Nat} {j k : Nat}, l.Pairwise (· < ·) → (∀ x ∈ l, j ≤ x ∧ x < k) → l.length ≤ k - j
  | [], _, _, _, _ => Nat.zero_le _
  | x :: l, j, k, hu, h => by
    rw [List.pairwise_cons] at hu
    have hx := h x (by simp)
    have := up_len' (l := l) (j := x + 1) (k := k) hu.2 (fun y hy => ⟨hu.1 y hy, (h y (by simp [hy])).2⟩)
    rw [List.length_cons]
    omega
theorem up_len {l : List Nat} (hu : l.Pairwise (· < ·)) {k : Nat} (h : ∀ x ∈ l, x < k) : l.length ≤ k := by
  have := up_len' (j := 0) hu (fun x hx => ⟨Nat.zero_le _, h x hx⟩)
  omega
theorem Good.len {F : DiskF} {bs : Boxes} {x : Option (List Nat)} (h : Good F bs x) : bs.length ≤ 16 := by
  have := up_len h.up (k := 16) (fun y hy => by
    obtain ⟨p, hp, rfl⟩ := List.mem_map.1 hy
    exact h.few p hp)
  simpa [Boxes.nums] using this
end Go.Proofs.YtlhaempecidohaaGreatDoor
