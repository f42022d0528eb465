/-
  NARROWER THAN 'FOR EVERY INPUT', by the rows' own cells (each row's printed sentence says how): HmacSums: laid · DeriveKeys: laid · BindTells: laid · SealTells: laid · BindAll: laid · ThirdAdds: laid · ThirdOpens: laid · RecipeGoesOn: laid · RecipeAlone: loops, laid.
  DERIVED. THE GIVEN ROWS OF THIS SEAT. 9 by the template 'for every input the law returns true; each argument reads behind the call as it read before'; 0 by the template 'total and deterministic' (their statements: YtdkeflhgengblaaDoorTotals.lean).
  GIVEN WITH THE SEED: the statements are not yours to turn. If you find one false, say at which input.
  Laid BY PROGRAM, IN A SANDBOX (cutbox-rows.mjs): the forced cells as the released guide's own fill.sh prints them over the translation 3c55584288b99820… (all of the seat's roots in one cut). By AI agents, Wed Nov 11 2026. No macro, syntax, notation, axiom, sorry.
-/
import Derived.Test.YtdkeflhgengblaaDoorChecked
import GoSem.Claim
import GoSem.ClaimJoined
import GoSem.ClaimMapViews
import Derived.JoinedTies
import Derived.KernelRfl
namespace Go.Proofs.YtdkeflhgengblaaDoor
/- THE CELL 'sum', in the pinned program and in every row, IS THE sha256 OF THE DUMP (.gsa) THAT YtdkeflhgengblaaDoorProg.lean LOADS. Nothing in Lean hashes anything: it is a label: what it is worth is what the hold of that sum in a sandbox is worth. -/
noncomputable def Tryd.pinned : Pinned := { name := "ytdkeflhgengblaadoor", sum := "3c55584288b9982039dad9e3b503724541dfefa35e1b4bbe9ad3cbf0c2b55cea", checked := Tryd.checked }
namespace Rows
def none {H : Type} : Left H := { results := [], args := [] }

/- WHAT THE LISTED PACKAGE-LEVEL VARIABLES READ AS WHEN THE CALL BEGINS. Each datum BY PROGRAM (the guide's laid-datum.mjs) off the statement by which the dump's own 'gosem.cut.vars' lays the variable. In a bare row this is a premise. The card (YtdkeflhgengblaaDoorCards.lean) ties it to the program's text. -/
def laid_chitty_word_primes {H : Type} : DataW H := .agg [.lit (.int .u32 1116352408), .lit (.int .u32 1899447441), .lit (.int .u32 3049323471), .lit (.int .u32 3921009573), .lit (.int .u32 961987163), .lit (.int .u32 1508970993), .lit (.int .u32 2453635748), .lit (.int .u32 2870763221), .lit (.int .u32 3624381080), .lit (.int .u32 310598401), .lit (.int .u32 607225278), .lit (.int .u32 1426881987), .lit (.int .u32 1925078388), .lit (.int .u32 2162078206), .lit (.int .u32 2614888103), .lit (.int .u32 3248222580), .lit (.int .u32 3835390401), .lit (.int .u32 4022224774), .lit (.int .u32 264347078), .lit (.int .u32 604807628), .lit (.int .u32 770255983), .lit (.int .u32 1249150122), .lit (.int .u32 1555081692), .lit (.int .u32 1996064986), .lit (.int .u32 2554220882), .lit (.int .u32 2821834349), .lit (.int .u32 2952996808), .lit (.int .u32 3210313671), .lit (.int .u32 3336571891), .lit (.int .u32 3584528711), .lit (.int .u32 113926993), .lit (.int .u32 338241895), .lit (.int .u32 666307205), .lit (.int .u32 773529912), .lit (.int .u32 1294757372), .lit (.int .u32 1396182291), .lit (.int .u32 1695183700), .lit (.int .u32 1986661051), .lit (.int .u32 2177026350), .lit (.int .u32 2456956037), .lit (.int .u32 2730485921), .lit (.int .u32 2820302411), .lit (.int .u32 3259730800), .lit (.int .u32 3345764771), .lit (.int .u32 3516065817), .lit (.int .u32 3600352804), .lit (.int .u32 4094571909), .lit (.int .u32 275423344), .lit (.int .u32 430227734), .lit (.int .u32 506948616), .lit (.int .u32 659060556), .lit (.int .u32 883997877), .lit (.int .u32 958139571), .lit (.int .u32 1322822218), .lit (.int .u32 1537002063), .lit (.int .u32 1747873779), .lit (.int .u32 1955562222), .lit (.int .u32 2024104815), .lit (.int .u32 2227730452), .lit (.int .u32 2361852424), .lit (.int .u32 2428436474), .lit (.int .u32 2756734187), .lit (.int .u32 3204031479), .lit (.int .u32 3329325298)]

/-- 'chittylaw04.HmacSums': WHATEVER THE INPUT: true; the input reads as it did. -/
def hmacSumsSpec : ChangeSpec := { name := "hmacSums", fn := fun _ => fun
  | [d1, d2] => { results := [.lit (.bool true)], args := [d1, d2] }
  | _ => none }
def hmacSumsRow : OpenClaim := { program := "ytdkeflhgengblaadoor", sum := "3c55584288b9982039dad9e3b503724541dfefa35e1b4bbe9ad3cbf0c2b55cea", func := "chitty/chittylaw04.HmacSums", spec := "hmacSums", named := ["chitty/word.primes"], apart := false, laid := [("chitty/word.primes", laid_chitty_word_primes)] }
def HmacSumsSaid : Prop := hmacSumsRow.holds Tryd.pinned (OpenSpec.ofChange hmacSumsSpec)

/-- ITS FALSE NEIGHBOUR: 'it returns false'. Refute it at one input. -/
def hmacSumsWrong : ChangeSpec := { name := "hmacSums", fn := fun _ => fun
  | [d1, d2] => { results := [.lit (.bool false)], args := [d1, d2] }
  | _ => none }
def HmacSumsWrongFalsely : Prop := hmacSumsRow.holds Tryd.pinned (OpenSpec.ofChange hmacSumsWrong)

/-- 'chittylaw06.DeriveKeys': WHATEVER THE INPUT: true; the input reads as it did. -/
def deriveKeysSpec : ChangeSpec := { name := "deriveKeys", fn := fun _ => fun
  | [d1, d2, d3] => { results := [.lit (.bool true)], args := [d1, d2, d3] }
  | _ => none }
def deriveKeysRow : OpenClaim := { program := "ytdkeflhgengblaadoor", sum := "3c55584288b9982039dad9e3b503724541dfefa35e1b4bbe9ad3cbf0c2b55cea", func := "chitty/chittylaw06.DeriveKeys", spec := "deriveKeys", named := ["chitty/word.primes"], apart := false, laid := [("chitty/word.primes", laid_chitty_word_primes)] }
def DeriveKeysSaid : Prop := deriveKeysRow.holds Tryd.pinned (OpenSpec.ofChange deriveKeysSpec)

/-- ITS FALSE NEIGHBOUR: 'it returns false'. Refute it at one input. -/
def deriveKeysWrong : ChangeSpec := { name := "deriveKeys", fn := fun _ => fun
  | [d1, d2, d3] => { results := [.lit (.bool false)], args := [d1, d2, d3] }
  | _ => none }
def DeriveKeysWrongFalsely : Prop := deriveKeysRow.holds Tryd.pinned (OpenSpec.ofChange deriveKeysWrong)

/-- 'chittylaw21.BindTells': WHATEVER THE INPUT: true; the input reads as it did. -/
def bindTellsSpec : ChangeSpec := { name := "bindTells", fn := fun _ => fun
  | [d1, d2, d3] => { results := [.lit (.bool true)], args := [d1, d2, d3] }
  | _ => none }
def bindTellsRow : OpenClaim := { program := "ytdkeflhgengblaadoor", sum := "3c55584288b9982039dad9e3b503724541dfefa35e1b4bbe9ad3cbf0c2b55cea", func := "chitty/chittylaw21.BindTells", spec := "bindTells", named := ["chitty/word.primes"], apart := false, laid := [("chitty/word.primes", laid_chitty_word_primes)] }
def BindTellsSaid : Prop := bindTellsRow.holds Tryd.pinned (OpenSpec.ofChange bindTellsSpec)

/-- ITS FALSE NEIGHBOUR: 'it returns false'. Refute it at one input. -/
def bindTellsWrong : ChangeSpec := { name := "bindTells", fn := fun _ => fun
  | [d1, d2, d3] => { results := [.lit (.bool false)], args := [d1, d2, d3] }
  | _ => none }
def BindTellsWrongFalsely : Prop := bindTellsRow.holds Tryd.pinned (OpenSpec.ofChange bindTellsWrong)

/-- 'chittylaw07.SealTells': WHATEVER THE INPUT: true; the input reads as it did. -/
def sealTellsSpec : ChangeSpec := { name := "sealTells", fn := fun _ => fun
  | [d1, d2, d3] => { results := [.lit (.bool true)], args := [d1, d2, d3] }
  | _ => none }
def sealTellsRow : OpenClaim := { program := "ytdkeflhgengblaadoor", sum := "3c55584288b9982039dad9e3b503724541dfefa35e1b4bbe9ad3cbf0c2b55cea", func := "chitty/chittylaw07.SealTells", spec := "sealTells", named := ["chitty/word.primes"], apart := false, laid := [("chitty/word.primes", laid_chitty_word_primes)] }
def SealTellsSaid : Prop := sealTellsRow.holds Tryd.pinned (OpenSpec.ofChange sealTellsSpec)

/-- ITS FALSE NEIGHBOUR: 'it returns false'. Refute it at one input. -/
def sealTellsWrong : ChangeSpec := { name := "sealTells", fn := fun _ => fun
  | [d1, d2, d3] => { results := [.lit (.bool false)], args := [d1, d2, d3] }
  | _ => none }
def SealTellsWrongFalsely : Prop := sealTellsRow.holds Tryd.pinned (OpenSpec.ofChange sealTellsWrong)

/-- 'chittylaw21.BindAll': WHATEVER THE INPUT: true; the input reads as it did. -/
def bindAllSpec : ChangeSpec := { name := "bindAll", fn := fun _ => fun
  | [d] => { results := [.lit (.bool true)], args := [d] }
  | _ => none }
def bindAllRow : OpenClaim := { program := "ytdkeflhgengblaadoor", sum := "3c55584288b9982039dad9e3b503724541dfefa35e1b4bbe9ad3cbf0c2b55cea", func := "chitty/chittylaw21.BindAll", spec := "bindAll", unfollowed := true, recurses := true, named := ["chitty/word.primes"], apart := false, laid := [("chitty/word.primes", laid_chitty_word_primes)] }
def BindAllSaid : Prop := bindAllRow.holds Tryd.pinned (OpenSpec.ofChange bindAllSpec)

/-- ITS FALSE NEIGHBOUR: 'it returns false'. Refute it at one input. -/
def bindAllWrong : ChangeSpec := { name := "bindAll", fn := fun _ => fun
  | [d] => { results := [.lit (.bool false)], args := [d] }
  | _ => none }
def BindAllWrongFalsely : Prop := bindAllRow.holds Tryd.pinned (OpenSpec.ofChange bindAllWrong)

/-- 'chittylaw20.ThirdAdds': WHATEVER THE INPUT: true; the input reads as it did. -/
def thirdAddsSpec : ChangeSpec := { name := "thirdAdds", fn := fun _ => fun
  | [d1, d2] => { results := [.lit (.bool true)], args := [d1, d2] }
  | _ => none }
def thirdAddsRow : OpenClaim := { program := "ytdkeflhgengblaadoor", sum := "3c55584288b9982039dad9e3b503724541dfefa35e1b4bbe9ad3cbf0c2b55cea", func := "chitty/chittylaw20.ThirdAdds", spec := "thirdAdds", unfollowed := true, recurses := true, named := ["chitty/word.primes"], apart := false, laid := [("chitty/word.primes", laid_chitty_word_primes)] }
def ThirdAddsSaid : Prop := thirdAddsRow.holds Tryd.pinned (OpenSpec.ofChange thirdAddsSpec)

/-- ITS FALSE NEIGHBOUR: 'it returns false'. Refute it at one input. -/
def thirdAddsWrong : ChangeSpec := { name := "thirdAdds", fn := fun _ => fun
  | [d1, d2] => { results := [.lit (.bool false)], args := [d1, d2] }
  | _ => none }
def ThirdAddsWrongFalsely : Prop := thirdAddsRow.holds Tryd.pinned (OpenSpec.ofChange thirdAddsWrong)

/-- 'chittylaw20.ThirdOpens': WHATEVER THE INPUT: true; the input reads as it did. -/
def thirdOpensSpec : ChangeSpec := { name := "thirdOpens", fn := fun _ => fun
  | [d1, d2, d3] => { results := [.lit (.bool true)], args := [d1, d2, d3] }
  | _ => none }
def thirdOpensRow : OpenClaim := { program := "ytdkeflhgengblaadoor", sum := "3c55584288b9982039dad9e3b503724541dfefa35e1b4bbe9ad3cbf0c2b55cea", func := "chitty/chittylaw20.ThirdOpens", spec := "thirdOpens", unfollowed := true, recurses := true, named := ["chitty/word.primes"], apart := false, laid := [("chitty/word.primes", laid_chitty_word_primes)] }
def ThirdOpensSaid : Prop := thirdOpensRow.holds Tryd.pinned (OpenSpec.ofChange thirdOpensSpec)

/-- ITS FALSE NEIGHBOUR: 'it returns false'. Refute it at one input. -/
def thirdOpensWrong : ChangeSpec := { name := "thirdOpens", fn := fun _ => fun
  | [d1, d2, d3] => { results := [.lit (.bool false)], args := [d1, d2, d3] }
  | _ => none }
def ThirdOpensWrongFalsely : Prop := thirdOpensRow.holds Tryd.pinned (OpenSpec.ofChange thirdOpensWrong)

/-- 'chittylaw26.RecipeGoesOn': WHATEVER THE INPUT: true; the input reads as it did. -/
def recipeGoesOnSpec : ChangeSpec := { name := "recipeGoesOn", fn := fun _ => fun
  | [d1, d2] => { results := [.lit (.bool true)], args := [d1, d2] }
  | _ => none }
def recipeGoesOnRow : OpenClaim := { program := "ytdkeflhgengblaadoor", sum := "3c55584288b9982039dad9e3b503724541dfefa35e1b4bbe9ad3cbf0c2b55cea", func := "chitty/chittylaw26.RecipeGoesOn", spec := "recipeGoesOn", unfollowed := true, recurses := true, named := ["chitty/word.primes"], apart := false, laid := [("chitty/word.primes", laid_chitty_word_primes)] }
def RecipeGoesOnSaid : Prop := recipeGoesOnRow.holds Tryd.pinned (OpenSpec.ofChange recipeGoesOnSpec)

/-- ITS FALSE NEIGHBOUR: 'it returns false'. Refute it at one input. -/
def recipeGoesOnWrong : ChangeSpec := { name := "recipeGoesOn", fn := fun _ => fun
  | [d1, d2] => { results := [.lit (.bool false)], args := [d1, d2] }
  | _ => none }
def RecipeGoesOnWrongFalsely : Prop := recipeGoesOnRow.holds Tryd.pinned (OpenSpec.ofChange recipeGoesOnWrong)

/-- 'chittylaw26.RecipeAlone': WHATEVER THE INPUT: true; the input reads as it did. -/
def recipeAloneSpec : ChangeSpec := { name := "recipeAlone", fn := fun _ => fun
  | [d1, d2, d3] => { results := [.lit (.bool true)], args := [d1, d2, d3] }
  | _ => none }
def recipeAloneRow : OpenClaim := { program := "ytdkeflhgengblaadoor", sum := "3c55584288b9982039dad9e3b503724541dfefa35e1b4bbe9ad3cbf0c2b55cea", func := "chitty/chittylaw26.RecipeAlone", spec := "recipeAlone", unfollowed := true, recurses := true, named := ["chitty/word.primes"], loops := true, apart := false, laid := [("chitty/word.primes", laid_chitty_word_primes)] }
def RecipeAloneSaid : Prop := recipeAloneRow.holds Tryd.pinned (OpenSpec.ofChange recipeAloneSpec)

/-- ITS FALSE NEIGHBOUR: 'it returns false'. Refute it at one input. -/
def recipeAloneWrong : ChangeSpec := { name := "recipeAlone", fn := fun _ => fun
  | [d1, d2, d3] => { results := [.lit (.bool false)], args := [d1, d2, d3] }
  | _ => none }
def RecipeAloneWrongFalsely : Prop := recipeAloneRow.holds Tryd.pinned (OpenSpec.ofChange recipeAloneWrong)

/- THE SECOND FORM. 'bulk': how many values and letters a reading holds, each counted each time it is reached (what is shared counts as often as it is met; a slice's spare places count too). A statement '..UptoSaid' is the law's where the arguments, and the package variables that the reading takes, are together of bulk at most 1048576: NARROWER than '..Said'. Prove '..Said' where nothing that the law and all that it calls make is longer than what came in: it says more and counts as full. Else prove '..UptoSaid'. A law counts once. -/
mutual
def uptoBulk {H : Type} : DataW H → Nat
  | .lit (.string bytes) => bytes.length + 1
  | .lit _ => 1
  | .nil => 1
  | .ptr d => uptoBulk d + 1
  | .slice elems spare => uptoBulkAll elems + uptoBulkAll spare + 1
  | .agg parts => uptoBulkAll parts + 1
  | .iface _ d => uptoBulk d + 1
  | .map entries => uptoBulkEntries entries + 1
  | .held _ => 1
def uptoBulkAll {H : Type} : List (DataW H) → Nat
  | [] => 0
  | d :: r => uptoBulk d + uptoBulkAll r
def uptoBulkEntries {H : Type} : List (Lit × DataW H) → Nat
  | [] => 0
  | x :: r => uptoBulkEntry x + uptoBulkEntries r
def uptoBulkEntry {H : Type} : Lit × DataW H → Nat
  | (.string bytes, d) => bytes.length + uptoBulk d + 1
  | (_, d) => uptoBulk d + 1
 end
def uptoSmall : (H : Type) → List (DataW H) → Bool := fun _ ds => decide (uptoBulkAll ds ≤ 1048576)
def OpenSpec.upto (s : _root_.Go.ChangeSpec) : _root_.Go.OpenSpec := { _root_.Go.OpenSpec.ofChange s with cond := some uptoSmall }

/-- 'chittylaw04.HmacSums', WHERE WHAT IT READS IS OF BULK AT MOST 1048576: true; the input reads as it did. -/
def hmacSumsUptoRow : OpenClaim := { program := "ytdkeflhgengblaadoor", sum := "3c55584288b9982039dad9e3b503724541dfefa35e1b4bbe9ad3cbf0c2b55cea", func := "chitty/chittylaw04.HmacSums", spec := "hmacSums", named := ["chitty/word.primes"], apart := false, laid := [("chitty/word.primes", laid_chitty_word_primes)], narrowed := true }
def HmacSumsUptoSaid : Prop := hmacSumsUptoRow.holds Tryd.pinned (OpenSpec.upto hmacSumsSpec)

/-- 'chittylaw06.DeriveKeys', WHERE WHAT IT READS IS OF BULK AT MOST 1048576: true; the input reads as it did. -/
def deriveKeysUptoRow : OpenClaim := { program := "ytdkeflhgengblaadoor", sum := "3c55584288b9982039dad9e3b503724541dfefa35e1b4bbe9ad3cbf0c2b55cea", func := "chitty/chittylaw06.DeriveKeys", spec := "deriveKeys", named := ["chitty/word.primes"], apart := false, laid := [("chitty/word.primes", laid_chitty_word_primes)], narrowed := true }
def DeriveKeysUptoSaid : Prop := deriveKeysUptoRow.holds Tryd.pinned (OpenSpec.upto deriveKeysSpec)

/-- 'chittylaw21.BindTells', WHERE WHAT IT READS IS OF BULK AT MOST 1048576: true; the input reads as it did. -/
def bindTellsUptoRow : OpenClaim := { program := "ytdkeflhgengblaadoor", sum := "3c55584288b9982039dad9e3b503724541dfefa35e1b4bbe9ad3cbf0c2b55cea", func := "chitty/chittylaw21.BindTells", spec := "bindTells", named := ["chitty/word.primes"], apart := false, laid := [("chitty/word.primes", laid_chitty_word_primes)], narrowed := true }
def BindTellsUptoSaid : Prop := bindTellsUptoRow.holds Tryd.pinned (OpenSpec.upto bindTellsSpec)

/-- 'chittylaw07.SealTells', WHERE WHAT IT READS IS OF BULK AT MOST 1048576: true; the input reads as it did. -/
def sealTellsUptoRow : OpenClaim := { program := "ytdkeflhgengblaadoor", sum := "3c55584288b9982039dad9e3b503724541dfefa35e1b4bbe9ad3cbf0c2b55cea", func := "chitty/chittylaw07.SealTells", spec := "sealTells", named := ["chitty/word.primes"], apart := false, laid := [("chitty/word.primes", laid_chitty_word_primes)], narrowed := true }
def SealTellsUptoSaid : Prop := sealTellsUptoRow.holds Tryd.pinned (OpenSpec.upto sealTellsSpec)

/-- 'chittylaw21.BindAll', WHERE WHAT IT READS IS OF BULK AT MOST 1048576: true; the input reads as it did. -/
def bindAllUptoRow : OpenClaim := { program := "ytdkeflhgengblaadoor", sum := "3c55584288b9982039dad9e3b503724541dfefa35e1b4bbe9ad3cbf0c2b55cea", func := "chitty/chittylaw21.BindAll", spec := "bindAll", unfollowed := true, recurses := true, named := ["chitty/word.primes"], apart := false, laid := [("chitty/word.primes", laid_chitty_word_primes)], narrowed := true }
def BindAllUptoSaid : Prop := bindAllUptoRow.holds Tryd.pinned (OpenSpec.upto bindAllSpec)

/-- 'chittylaw20.ThirdAdds', WHERE WHAT IT READS IS OF BULK AT MOST 1048576: true; the input reads as it did. -/
def thirdAddsUptoRow : OpenClaim := { program := "ytdkeflhgengblaadoor", sum := "3c55584288b9982039dad9e3b503724541dfefa35e1b4bbe9ad3cbf0c2b55cea", func := "chitty/chittylaw20.ThirdAdds", spec := "thirdAdds", unfollowed := true, recurses := true, named := ["chitty/word.primes"], apart := false, laid := [("chitty/word.primes", laid_chitty_word_primes)], narrowed := true }
def ThirdAddsUptoSaid : Prop := thirdAddsUptoRow.holds Tryd.pinned (OpenSpec.upto thirdAddsSpec)

/-- 'chittylaw20.ThirdOpens', WHERE WHAT IT READS IS OF BULK AT MOST 1048576: true; the input reads as it did. -/
def thirdOpensUptoRow : OpenClaim := { program := "ytdkeflhgengblaadoor", sum := "3c55584288b9982039dad9e3b503724541dfefa35e1b4bbe9ad3cbf0c2b55cea", func := "chitty/chittylaw20.ThirdOpens", spec := "thirdOpens", unfollowed := true, recurses := true, named := ["chitty/word.primes"], apart := false, laid := [("chitty/word.primes", laid_chitty_word_primes)], narrowed := true }
def ThirdOpensUptoSaid : Prop := thirdOpensUptoRow.holds Tryd.pinned (OpenSpec.upto thirdOpensSpec)

/-- 'chittylaw26.RecipeGoesOn', WHERE WHAT IT READS IS OF BULK AT MOST 1048576: true; the input reads as it did. -/
def recipeGoesOnUptoRow : OpenClaim := { program := "ytdkeflhgengblaadoor", sum := "3c55584288b9982039dad9e3b503724541dfefa35e1b4bbe9ad3cbf0c2b55cea", func := "chitty/chittylaw26.RecipeGoesOn", spec := "recipeGoesOn", unfollowed := true, recurses := true, named := ["chitty/word.primes"], apart := false, laid := [("chitty/word.primes", laid_chitty_word_primes)], narrowed := true }
def RecipeGoesOnUptoSaid : Prop := recipeGoesOnUptoRow.holds Tryd.pinned (OpenSpec.upto recipeGoesOnSpec)

/-- 'chittylaw26.RecipeAlone', WHERE WHAT IT READS IS OF BULK AT MOST 1048576: true; the input reads as it did. -/
def recipeAloneUptoRow : OpenClaim := { program := "ytdkeflhgengblaadoor", sum := "3c55584288b9982039dad9e3b503724541dfefa35e1b4bbe9ad3cbf0c2b55cea", func := "chitty/chittylaw26.RecipeAlone", spec := "recipeAlone", unfollowed := true, recurses := true, named := ["chitty/word.primes"], loops := true, apart := false, laid := [("chitty/word.primes", laid_chitty_word_primes)], narrowed := true }
def RecipeAloneUptoSaid : Prop := recipeAloneUptoRow.holds Tryd.pinned (OpenSpec.upto recipeAloneSpec)

end Rows
end Go.Proofs.YtdkeflhgengblaaDoor
