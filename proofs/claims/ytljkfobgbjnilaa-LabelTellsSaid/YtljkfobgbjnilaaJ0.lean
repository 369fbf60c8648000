/- Plain laws of labels: of terms that are put together. No program in sight. -/
import Derived.Test.YtljkfobgbjnilaaH0
namespace Go.Proofs.Ytljkfobgbjnilaa
open Go.RowKit

def nameE (s : ByteArray) : E := ⟨4, s, zVal, []⟩
def notE (e : E) : E := ⟨6, ⟨#[]⟩, zVal, [e]⟩
def andE (a b : E) : E := ⟨7, ⟨#[]⟩, zVal, [a, b]⟩
def orE (a b : E) : E := ⟨8, ⟨#[]⟩, zVal, [a, b]⟩
theorem kind_nameE (s : ByteArray) : (nameE s).kind = 4 := rfl
theorem kind_notE (e : E) : (notE e).kind = 6 := rfl
theorem kind_andE (a b : E) : (andE a b).kind = 7 := rfl
theorem kind_orE (a b : E) : (orE a b).kind = 8 := rfl
theorem termS (n : Nat) (e : E) : term (n + 1) e = match arity e.kind with
    | none => false
    | some (k, named) => e.kids.length == k && bareV e.val && (named == word e.name) && (named || emptyS e.name) && e.kids.all (term n) := by rw [term]; cases arity e.kind <;> rfl
theorem emptyS_nil : emptyS ⟨#[]⟩ = true := by unfold emptyS; rw [ByteArray.toList_eq]; rfl
theorem bare_zero : bareV zVal = true := by
  unfold bareV zVal
  rw [emptyS_nil]
  decide
theorem word_nil : word ⟨#[]⟩ = false := by unfold word; rw [emptyS_nil]; rfl
theorem term_nameE (n : Nat) (s : ByteArray) : term (n + 1) (nameE s) = word s := by
  rw [termS]
  show ((0 == 0) && bareV zVal && (true == word s) && (true || emptyS s) && true) = word s
  rw [bare_zero]; cases word s <;> rfl
theorem term_notE (n : Nat) (e : E) : term (n + 1) (notE e) = term n e := by
  rw [termS]
  show ((1 == 1) && bareV zVal && (false == word ⟨#[]⟩) && (false || emptyS ⟨#[]⟩) && (term n e && true)) = term n e
  rw [bare_zero, word_nil, emptyS_nil]; cases term n e <;> rfl
theorem term_andE (n : Nat) (a b : E) : term (n + 1) (andE a b) = (term n a && term n b) := by
  rw [termS]
  show ((2 == 2) && bareV zVal && (false == word ⟨#[]⟩) && (false || emptyS ⟨#[]⟩) && (term n a && (term n b && true))) = _
  rw [bare_zero, word_nil, emptyS_nil]; cases term n a <;> cases term n b <;> rfl
theorem term_orE (n : Nat) (a b : E) : term (n + 1) (orE a b) = (term n a && term n b) := by
  rw [termS]
  show ((2 == 2) && bareV zVal && (false == word ⟨#[]⟩) && (false || emptyS ⟨#[]⟩) && (term n a && (term n b && true))) = _
  rw [bare_zero, word_nil, emptyS_nil]; cases term n a <;> cases term n b <;> rfl
theorem right_nameE (s : ByteArray) : labelRight (nameE s) = word s := by
  unfold labelRight; rw [kind_nameE, if_neg (by decide)]; exact term_nameE 49 s
theorem right_notE (e : E) : labelRight (notE e) = term 49 e := by
  unfold labelRight; rw [kind_notE, if_neg (by decide)]; exact term_notE 49 e
theorem right_andE (a b : E) : labelRight (andE a b) = (term 49 a && term 49 b) := by
  unfold labelRight; rw [kind_andE, if_neg (by decide)]; exact term_andE 49 a b
theorem right_orE (a b : E) : labelRight (orE a b) = (term 49 a && term 49 b) := by
  unfold labelRight; rw [kind_orE, if_neg (by decide)]; exact term_orE 49 a b
theorem holds_nameE (n : Nat) (l : List ByteArray) (s : ByteArray) : holdsN (n + 1) l (nameE s) = l.any (sameS s) := by rw [holdsN, kind_nameE, if_pos rfl]; rfl
theorem holds_notE (n : Nat) (l : List ByteArray) (e : E) : holdsN (n + 1) l (notE e) = !holdsN n l e := by
  rw [holdsN, kind_notE, if_neg (by decide), if_neg (by decide), if_pos rfl]; rfl
theorem holds_andE (n : Nat) (l : List ByteArray) (a b : E) : holdsN (n + 1) l (andE a b) = (holdsN n l a && holdsN n l b) := by
  rw [holdsN, kind_andE, if_neg (by decide), if_neg (by decide), if_neg (by decide), if_pos rfl]; rfl
theorem holds_orE (n : Nat) (l : List ByteArray) (a b : E) : holdsN (n + 1) l (orE a b) = (holdsN n l a || holdsN n l b) := by
  rw [holdsN, kind_orE, if_neg (by decide), if_neg (by decide), if_neg (by decide), if_neg (by decide), if_pos rfl]; rfl
theorem has_nameE (l : List ByteArray) (s : ByteArray) : hasL l (nameE s) = (word s && l.any (sameS s)) := by unfold hasL; rw [right_nameE, holds_nameE 49]; rfl
theorem has_notE (l : List ByteArray) (e : E) : hasL l (notE e) = (term 49 e && !holdsN 49 l e) := by unfold hasL; rw [right_notE, holds_notE 49]; rfl
theorem has_andE (l : List ByteArray) (a b : E) : hasL l (andE a b) = ((term 49 a && term 49 b) && (holdsN 49 l a && holdsN 49 l b)) := by unfold hasL; rw [right_andE, holds_andE 49]; rfl
theorem has_orE (l : List ByteArray) (a b : E) : hasL l (orE a b) = ((term 49 a && term 49 b) && (holdsN 49 l a || holdsN 49 l b)) := by unfold hasL; rw [right_orE, holds_orE 49]; rfl
theorem names_nameE (n : Nat) (s : ByteArray) : namesN (n + 1) (nameE s) = [s] := by rw [namesN_succ, kind_nameE, if_pos rfl]; rfl
theorem names_notE (n : Nat) (e : E) : namesN (n + 1) (notE e) = namesN n e := by
  rw [namesN_succ, kind_notE, if_neg (by decide)]
  show [] ++ (namesN n e ++ []) = _
  simp
theorem names_andE (n : Nat) (a b : E) : namesN (n + 1) (andE a b) = namesN n a ++ namesN n b := by
  rw [namesN_succ, kind_andE, if_neg (by decide)]
  show [] ++ (namesN n a ++ (namesN n b ++ [])) = _
  simp

/-! ### what the law shows in any case -/
def sA : ByteArray := ⟨#[65]⟩
def sB : ByteArray := ⟨#[66]⟩
def sC : ByteArray := ⟨#[67]⟩
def shE : E := andE (nameE sA) (notE (nameE sC))
theorem word_eq (s : ByteArray) : word s = (allW true s.data.toList && (!s.data.toList.isEmpty && decide (s.size ≤ 40))) := by unfold word emptyS; rw [ByteArray.toList_eq]
theorem same_eq (a b : ByteArray) : sameS a b = (a.data.toList == b.data.toList) := by unfold sameS; rw [ByteArray.toList_eq, ByteArray.toList_eq]
theorem wordA : word sA = true := by rw [word_eq]; decide
theorem wordC : word sC = true := by rw [word_eq]; decide
theorem sh1 : labelRight shE = true := by unfold shE; rw [right_andE, term_nameE 48, term_notE 48, term_nameE 47, wordA, wordC]; rfl
theorem sh2 : hasL [sA, sB] shE = true := by
  unfold shE
  rw [has_andE, term_nameE 48, term_notE 48, term_nameE 47, wordA, wordC, holds_nameE 48, holds_notE 48, holds_nameE 47]
  simp only [List.any_cons, List.any_nil, same_eq]
  decide
theorem sh3 : hasL [sA, sC] shE = false := by
  unfold shE
  rw [has_andE, term_nameE 48, term_notE 48, term_nameE 47, wordA, wordC, holds_nameE 48, holds_notE 48, holds_nameE 47]
  simp only [List.any_cons, List.any_nil, same_eq]
  decide
theorem sh4 : labelRight zE = true := by
  unfold labelRight zE
  rw [if_pos rfl, emptyS_nil, bare_zero]; rfl
theorem sh5 : hasL [] zE = true := by unfold hasL; rw [sh4]; rfl
theorem sh6 : sortedNames shE = [sA, sC] := by
  unfold sortedNames
  rw [sh1, if_pos rfl]
  unfold shE
  rw [names_andE 49, names_nameE 48, names_notE 48, names_nameE 47]
  show withS (withS [] sA) sC = _
  rw [withS_nil, withS_cons, withS_nil]
  unfold lessS
  rw [same_eq, ByteArray.toList_eq, ByteArray.toList_eq]
  decide
theorem sh7 : word ⟨#[97, 95, 49]⟩ = true := by rw [word_eq]; decide
theorem sh8 : word ⟨#[49, 97]⟩ = false := by rw [word_eq]; decide
theorem names_shE : namesN 50 shE = [sA, sC] := by unfold shE; rw [names_andE 49, names_nameE 48, names_notE 48, names_nameE 47]; rfl
end Go.Proofs.Ytljkfobgbjnilaa
