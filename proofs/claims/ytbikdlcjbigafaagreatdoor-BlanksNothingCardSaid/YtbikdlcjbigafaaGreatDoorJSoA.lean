/-
  A source of raw things: its text, as words of lines; how it reads.
-/
import Derived.Lib.ItoaMem
import Derived.Test.YtbikdlcjbigafaaGreatDoorJRdA
namespace Go.Proofs.YtbikdlcjbigafaaGreatDoor
set_option linter.unusedVariables false
set_option linter.unusedSimpArgs false
open Go.ChangeShapes Go.WideShapes Go.ChangeAt Go.RowKit Civ

structure Rz where
  kd : Int
  ra : Int
  rb : Int
  rc : Int
abbrev Wd := List UInt8
def picL (l : List Wd) (k : Int) : Wd := l.getD k.toNat []
def pkz (n many : Int) : Int := (if n < 0 then -(n + 1) else n) % many
def twoT (n : Int) : Wd := Lib.itoa (n.tdiv 10) ++ Lib.itoa (n.tmod 10)
def hrsG (h q m : Int) : Wd := Lib.itoa h ++ (if q = 0 then 58 :: twoT m else if q = 1 then [58, 51, 48, 58] ++ twoT m else [])
def hrsT (n : Int) : Wd := hrsG (pkz n 4) (pkz (n.tdiv 4) 4) (pkz (n.tdiv 16) 60)
def wdL : List Wd := [[83, 117, 110], [77, 111, 110], [84, 117, 101], [87, 101, 100], [84, 104, 117], [70, 114, 105], [83, 97, 116]]
def monL : List Wd := [[74, 97, 110], [70, 101, 98], [77, 97, 114], [65, 112, 114], [77, 97, 121], [74, 117, 110], [74, 117, 108], [65, 117, 103], [83, 101, 112], [79, 99, 116], [78, 111, 118], [68, 101, 99]]
def dayG (k w d : Int) : Wd := picL [Lib.itoa d, [108, 97, 115, 116] ++ picL wdL w, picL wdL w ++ ([62, 61] ++ Lib.itoa d), picL wdL w ++ ([60, 61] ++ Lib.itoa d)] k
def dayT (n : Int) : Wd := dayG (pkz n 4) (pkz (n.tdiv 4) 7) (1 + pkz (n.tdiv 28) 28)
def monT (n : Int) : Wd := picL monL (pkz n 12)
def yrT (n : Int) : Int := 1905 + pkz n 190
def sfxL : List Wd := [[], [119], [115], [117]]
def savL : List Wd := [[48], [49, 58, 48, 48], [48], [48, 58, 51, 48], [49, 58, 48, 48], [45, 49, 58, 48, 48]]
def letL : List Wd := [[83], [45], [68], [97, 98]]
def rnmL : List Wd := [[69, 85], [85, 83]]
def offL : List Wd := [[48], [49, 58, 48, 48], [45, 53, 58, 48, 48], [48, 58, 49, 57, 58, 51, 50], [57, 58, 51, 48], [45, 48, 58, 50, 53]]
def rlsL : List Wd := [[45], [69, 85], [85, 83], [49, 58, 48, 48]]
def fmtT : List Wd := [[76, 77, 84], [69, 37, 115, 84], [67, 69, 84, 47, 67, 69, 83, 84], [37, 115], [43, 48, 49]]
def rulWd : Wd := [82, 117, 108, 101]
def zonWd : Wd := [90, 111, 110, 101]
def lnkWd : Wd := [76, 105, 110, 107]
def toT (x : Rz) : Wd := picL [[109, 97, 120], [111, 110, 108, 121], Lib.itoa (min (yrT x.ra + pkz x.rb 40) 2099)] (pkz x.kd 3)
/-- the words of a rule's line. -/
def rulWs (x : Rz) : List Wd := [rulWd, picL rnmL (pkz (x.kd.tdiv 3) 2), Lib.itoa (yrT x.ra), toT x, [45], monT x.rb, dayT x.rc, hrsT x.ra ++ picL sfxL (pkz x.ra 4), picL savL (pkz x.rc 6), picL letL (pkz x.rb 4)]
def fixWs : List (List Wd) := [[[82, 117, 108, 101], [69, 85], [49, 57, 56, 48], [109, 97, 120], [45], [77, 97, 114], [108, 97, 115, 116, 83, 117, 110], [49, 58, 48, 48, 117], [49, 58, 48, 48], [83]], [[82, 117, 108, 101], [69, 85], [49, 57, 56, 48], [109, 97, 120], [45], [79, 99, 116], [108, 97, 115, 116, 83, 117, 110], [49, 58, 48, 48, 117], [48], [45]], [[82, 117, 108, 101], [85, 83], [49, 57, 54, 55], [50, 48, 48, 54], [45], [65, 112, 114], [83, 117, 110, 62, 61, 49], [50, 58, 48, 48], [49, 58, 48, 48], [68]], [[82, 117, 108, 101], [85, 83], [49, 57, 54, 55], [50, 48, 48, 54], [45], [79, 99, 116], [108, 97, 115, 116, 83, 117, 110], [50, 58, 48, 48], [48], [83]]]
/-- of an era: but for its end; its end. -/
def eraWs (x : Rz) : List Wd := [picL offL (pkz x.kd 6), picL rlsL (pkz (x.kd.tdiv 6) 4), picL fmtT (pkz x.rb 5)]
def untWs (x : Rz) (y : Int) : List Wd := [Lib.itoa (y + pkz x.ra 20), monT x.rc, dayT x.ra, hrsT x.rb]
/-- eras that end, from a year on. -/
def ersWs : List Rz → Int → List (List Wd)
  | [], _ => []
  | x :: l, y => (eraWs x ++ untWs x y) :: ersWs l (y + 30)
def ersOf (l : List Rz) (z : Nat) : List (List Wd) := ersWs ((l.drop (7 + 4 * z)).take 4) 1910 ++ [eraWs ⟨IntKind.i64.wrap ((l.length : Int) + z), 5 * z, 0, 0⟩]
def headWs (nm : Wd) : List (List Wd) → List (List Wd)
  | [] => []
  | x :: l => (zonWd :: nm :: x) :: l
def oneWd : Wd := [79, 110, 101, 47, 65]
def twoWd : Wd := [84, 119, 111]
def linWs : List (List Wd) := [[[76, 105, 110, 107], [79, 110, 101, 47, 65], [84, 104, 114, 101, 101]], [[76, 105, 110, 107], [84, 104, 114, 101, 101], [70, 111, 117, 114]]]
/-- the lines, each as its words. -/
def srcWs (l : List Rz) : List (List Wd) := (l.take 7).map rulWs ++ (fixWs ++ (headWs oneWd (ersOf l 0) ++ (headWs twoWd (ersOf l 1) ++ linWs)))
/-- words, with blanks between them. -/
def joinT : List Wd → Wd
  | [] => []
  | [a] => a
  | a :: b :: l => a ++ 32 :: joinT (b :: l)
def lnsT (L : List (List Wd)) : Wd := L.flatMap fun ws => joinT ws ++ [10]
def srcT (l : List Rz) : Wd := lnsT (srcWs l)

/-- a word that may be. -/
def wok (w : Wd) : Bool := decide (w ≠ []) && (decide (w.length ≤ 20) && w.all fun c => decide (c ≠ 32) && decide (c ≠ 9) && decide (c ≠ 35) && decide (c ≠ 10))
theorem wok_iff (w : Wd) : wok w = true ↔ w ≠ [] ∧ w.length ≤ 20 ∧ ∀ c ∈ w, c ≠ 32 ∧ c ≠ 9 ∧ c ≠ 35 ∧ c ≠ 10 := by
  unfold wok
  simp only [Bool.and_eq_true, decide_eq_true_eq, List.all_eq_true, and_assoc]
theorem wdsF_word : ∀ (w cur : Wd) (rest : Wd), (∀ c ∈ w, c ≠ 32 ∧ c ≠ 9 ∧ c ≠ 35 ∧ c ≠ 10) → cur ++ w ≠ [] → wdsF cur (w ++ 32 :: rest) = (cur ++ w) :: wdsF [] rest
  | [], cur, rest, _, hn => by
    rw [List.append_nil] at hn ⊢
    show (if (32 : UInt8) = 35 then _ else if (32 : UInt8) = 32 ∨ _ then (if cur = [] then _ else _) else _) = _
    rw [if_neg (by decide), if_pos (.inl rfl), if_neg hn]
  | c :: w, cur, rest, h, hn => by
    obtain ⟨h1, h2, h3, -⟩ := h c (by simp)
    show (if c = 35 then _ else if c = 32 ∨ c = 9 then _ else wdsF (cur ++ [c]) (w ++ 32 :: rest)) = _
    rw [if_neg h3, if_neg (by rintro (e | e); exact h1 e; exact h2 e), wdsF_word w (cur ++ [c]) rest (fun c hc => h c (by simp [hc])) (by simp)]
    simp
theorem wdsF_last : ∀ (w cur : Wd), (∀ c ∈ w, c ≠ 32 ∧ c ≠ 9 ∧ c ≠ 35 ∧ c ≠ 10) → cur ++ w ≠ [] → wdsF cur w = [cur ++ w]
  | [], cur, _, hn => by
    rw [List.append_nil] at hn ⊢
    show (if cur = [] then _ else _) = _
    rw [if_neg hn]
  | c :: w, cur, h, hn => by
    obtain ⟨h1, h2, h3, -⟩ := h c (by simp)
    show (if c = 35 then _ else if c = 32 ∨ c = 9 then _ else wdsF (cur ++ [c]) w) = _
    rw [if_neg h3, if_neg (by rintro (e | e); exact h1 e; exact h2 e), wdsF_last w (cur ++ [c]) (fun c hc => h c (by simp [hc])) (by simp)]
    simp
theorem wdsF_join : ∀ (ws : List Wd), ws.all wok = true → wdsF [] (joinT ws) = ws
  | [], _ => rfl
  | [a], h => by
    simp only [List.all_cons, List.all_nil, Bool.and_true] at h
    obtain ⟨h1, -, h2⟩ := (wok_iff a).1 h
    exact wdsF_last a [] h2 (by simpa using h1)
  | a :: b :: l, h => by
    rw [List.all_cons, Bool.and_eq_true] at h
    obtain ⟨h1, -, h2⟩ := (wok_iff a).1 h.1
    show wdsF [] (a ++ 32 :: joinT (b :: l)) = _
    rw [wdsF_word a [] _ h2 (by simpa using h1), wdsF_join (b :: l) h.2]
    rfl
theorem wdsS_join (ws : List Wd) (h : ws.all wok = true) : wdsS (joinT ws) = ws.map bx := by unfold wdsS; rw [wdsF_join ws h]
theorem longW_join (ws : List Wd) (h : ws.all wok = true) : longW (ws.map bx) = false := by
  rw [Bool.eq_false_iff]
  intro e
  obtain ⟨x, hx, h2⟩ := List.any_eq_true.1 e
  obtain ⟨y, hy, rfl⟩ := List.mem_map.1 hx
  have := ((wok_iff y).1 (List.all_eq_true.1 h y hy)).2.1
  have h3 := of_decide_eq_true h2
  rw [bx_size] at h3
  omega
theorem join_nl : ∀ (ws : List Wd), ws.all wok = true → (10 : UInt8) ∉ joinT ws
  | [], _ => by simp [joinT]
  | [a], h => by
    simp only [List.all_cons, List.all_nil, Bool.and_true] at h
    exact fun e => (((wok_iff a).1 h).2.2 10 e).2.2.2 rfl
  | a :: b :: l, h => by
    rw [List.all_cons, Bool.and_eq_true] at h
    show (10 : UInt8) ∉ a ++ 32 :: joinT (b :: l)
    intro e
    rcases List.mem_append.1 e with e | e
    · exact (((wok_iff a).1 h.1).2.2 10 e).2.2.2 rfl
    · rcases List.mem_cons.1 e with e | e
      · cases e
      · exact join_nl (b :: l) h.2 e
theorem splB_line (c : UInt8) : ∀ (w cur rest : Wd), c ∉ w → splB c cur (w ++ c :: rest) = (cur ++ w) :: splB c [] rest
  | [], cur, rest, _ => by
    show (if c = c then _ else _) = _
    rw [if_pos rfl, List.append_nil]
  | x :: w, cur, rest, h => by
    show (if x = c then _ else splB c (cur ++ [x]) (w ++ c :: rest)) = _
    rw [if_neg (fun e => h (by simp [e])), splB_line c w (cur ++ [x]) rest (fun e => h (by simp [e]))]
    simp
theorem splB_lns : ∀ (L : List (List Wd)) (rest : Wd), (L.all fun ws => ws.all wok) = true → splB 10 [] (lnsT L ++ rest) = L.map joinT ++ splB 10 [] rest
  | [], rest, _ => rfl
  | ws :: L, rest, h => by
    rw [List.all_cons, Bool.and_eq_true] at h
    show splB 10 [] ((joinT ws ++ [10]) ++ lnsT L ++ rest) = _
    rw [List.append_assoc, List.append_assoc, List.singleton_append, splB_line 10 _ [] _ (join_nl ws h.1), splB_lns L rest h.2]
    rfl
/-- lines that are read. -/
def Reads : RdS → List (List UInt8) → RdS → Prop
  | st, [], st' => st = st'
  | st, l :: L, st' => linE st l = 0 ∧ Reads (linV st l) L st'
theorem Reads.app : ∀ {L : List (List UInt8)} {st st1 st2 : RdS} {M : List (List UInt8)}, Reads st L st1 → Reads st1 M st2 → Reads st (L ++ M) st2
  | [], st, st1, st2, M, h, g => by
    have h : st = st1 := h
    rw [h]; exact g
  | l :: L, st, st1, st2, M, h, g => ⟨h.1, h.2.app g⟩
theorem Reads.lins : ∀ {L : List (List UInt8)} {st st' : RdS}, Reads st L st' → ∀ i, linsF st i L = ((st', i + L.length), 0)
  | [], st, st', h, i => by
    have h : st = st' := h
    rw [h]; rfl
  | l :: L, st, st', h, i => by
    show (if linE st l ≠ 0 then _ else linsF (linV st l) (i + 1) L) = _
    rw [if_neg (by simp [h.1]), h.2.lins (i + 1), List.length_cons]
    congr 2
    omega
/-- a line of words that may be. -/
theorem linE_join {st : RdS} {ws : List Wd} (h : ws.all wok = true) : linE st (joinT ws) = lnE st (ws.map bx) := by
  unfold linE
  rw [wdsS_join ws h, longW_join ws h, if_neg (by decide)]
theorem linV_join {st : RdS} {ws : List Wd} (h : ws.all wok = true) : linV st (joinT ws) = lnV st (ws.map bx) := by
  unfold linV
  rw [wdsS_join ws h]
end Go.Proofs.YtbikdlcjbigafaaGreatDoor
