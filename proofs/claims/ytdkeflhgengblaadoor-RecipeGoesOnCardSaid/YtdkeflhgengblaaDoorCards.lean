/-
  DERIVED. GIVEN WITH THE SEED: THE CARDS: each row of YtdkeflhgengblaaDoorRows.lean that lists a variable, with what it lists TIED to the program's text (the seventh form; the later family's looks); each row that meets fmt, with fmt's text TOLD by the authors' own Lean function (tested against real Go, not proved from fmt's source: count such statements apart). THE CARD IS WHAT COUNTS. Prove the row's statement (the work); the ties are given (YtdkeflhgengblaaDoorTie.lean); close each card by the builder's one call (the guide's Derived/Test/ToyasCard.lean, 'card_holds'). Laid BY PROGRAM, IN A SANDBOX (cutbox-door.mjs). By AI agents, Wed Nov 11 2026. No macro, syntax, notation, axiom, sorry.
-/
import Derived.Test.YtdkeflhgengblaaDoorRows
import GoSem.ClaimSeven
namespace Go.Proofs.YtdkeflhgengblaaDoor
namespace Rows

/-- THE TIED CARD OF 'chittylaw04.HmacSums'. -/
def hmacSumsCard : Claim7 := { stood := { row := hmacSumsRow, standIns := [], harness := (true, "d317ab1675fa3a16e363678a6185963307d92010002b8084dbffbaf3b4b18b17"), looks := false }, kinds := [], alts := [], laidByText := true, laidKinds := [.data], laidTests := true, laidLooks := .later }
def HmacSumsCardSaid : Prop := Claim7.holds Tryd.pinned (.plain (OpenSpec.ofChange hmacSumsSpec)) hmacSumsCard

/-- THE TIED CARD OF 'chittylaw06.DeriveKeys'. -/
def deriveKeysCard : Claim7 := { stood := { row := deriveKeysRow, standIns := [], harness := (true, "d317ab1675fa3a16e363678a6185963307d92010002b8084dbffbaf3b4b18b17"), looks := false }, kinds := [], alts := [], laidByText := true, laidKinds := [.data], laidTests := true, laidLooks := .later }
def DeriveKeysCardSaid : Prop := Claim7.holds Tryd.pinned (.plain (OpenSpec.ofChange deriveKeysSpec)) deriveKeysCard

/-- THE TIED CARD OF 'chittylaw21.BindTells'. -/
def bindTellsCard : Claim7 := { stood := { row := bindTellsRow, standIns := [], harness := (true, "d317ab1675fa3a16e363678a6185963307d92010002b8084dbffbaf3b4b18b17"), looks := false }, kinds := [], alts := [], laidByText := true, laidKinds := [.data], laidTests := true, laidLooks := .later }
def BindTellsCardSaid : Prop := Claim7.holds Tryd.pinned (.plain (OpenSpec.ofChange bindTellsSpec)) bindTellsCard

/-- THE TIED CARD OF 'chittylaw07.SealTells'. -/
def sealTellsCard : Claim7 := { stood := { row := sealTellsRow, standIns := [], harness := (true, "d317ab1675fa3a16e363678a6185963307d92010002b8084dbffbaf3b4b18b17"), looks := false }, kinds := [], alts := [], laidByText := true, laidKinds := [.data], laidTests := true, laidLooks := .later }
def SealTellsCardSaid : Prop := Claim7.holds Tryd.pinned (.plain (OpenSpec.ofChange sealTellsSpec)) sealTellsCard

/-- THE TIED CARD OF 'chittylaw21.BindAll'. -/
def bindAllCard : Claim7 := { stood := { row := bindAllRow, standIns := [], harness := (true, "d317ab1675fa3a16e363678a6185963307d92010002b8084dbffbaf3b4b18b17"), looks := false }, kinds := [], alts := [], laidByText := true, laidKinds := [.data], laidTests := true, laidLooks := .later }
def BindAllCardSaid : Prop := Claim7.holds Tryd.pinned (.plain (OpenSpec.ofChange bindAllSpec)) bindAllCard

/-- THE TIED CARD OF 'chittylaw20.ThirdAdds'. -/
def thirdAddsCard : Claim7 := { stood := { row := thirdAddsRow, standIns := [], harness := (true, "d317ab1675fa3a16e363678a6185963307d92010002b8084dbffbaf3b4b18b17"), looks := false }, kinds := [], alts := [], laidByText := true, laidKinds := [.data], laidTests := true, laidLooks := .later }
def ThirdAddsCardSaid : Prop := Claim7.holds Tryd.pinned (.plain (OpenSpec.ofChange thirdAddsSpec)) thirdAddsCard

/-- THE TIED CARD OF 'chittylaw20.ThirdOpens'. -/
def thirdOpensCard : Claim7 := { stood := { row := thirdOpensRow, standIns := [], harness := (true, "d317ab1675fa3a16e363678a6185963307d92010002b8084dbffbaf3b4b18b17"), looks := false }, kinds := [], alts := [], laidByText := true, laidKinds := [.data], laidTests := true, laidLooks := .later }
def ThirdOpensCardSaid : Prop := Claim7.holds Tryd.pinned (.plain (OpenSpec.ofChange thirdOpensSpec)) thirdOpensCard

/-- THE TIED CARD OF 'chittylaw26.RecipeGoesOn'. -/
def recipeGoesOnCard : Claim7 := { stood := { row := recipeGoesOnRow, standIns := [], harness := (true, "d317ab1675fa3a16e363678a6185963307d92010002b8084dbffbaf3b4b18b17"), looks := false }, kinds := [], alts := [], laidByText := true, laidKinds := [.data], laidTests := true, laidLooks := .later }
def RecipeGoesOnCardSaid : Prop := Claim7.holds Tryd.pinned (.plain (OpenSpec.ofChange recipeGoesOnSpec)) recipeGoesOnCard

/-- THE TIED CARD OF 'chittylaw26.RecipeAlone'. -/
def recipeAloneCard : Claim7 := { stood := { row := recipeAloneRow, standIns := [], harness := (true, "d317ab1675fa3a16e363678a6185963307d92010002b8084dbffbaf3b4b18b17"), looks := false }, kinds := [], alts := [], laidByText := true, laidKinds := [.data], laidTests := true, laidLooks := .later }
def RecipeAloneCardSaid : Prop := Claim7.holds Tryd.pinned (.plain (OpenSpec.ofChange recipeAloneSpec)) recipeAloneCard

/-- THE SECOND FORM's CARD OF 'chittylaw04.HmacSums'. -/
def hmacSumsUptoCard : Claim7 := { stood := { row := hmacSumsUptoRow, standIns := [], harness := (true, "d317ab1675fa3a16e363678a6185963307d92010002b8084dbffbaf3b4b18b17"), looks := false }, kinds := [], alts := [], laidByText := true, laidKinds := [.data], laidTests := true, laidLooks := .later }
def HmacSumsUptoCardSaid : Prop := Claim7.holds Tryd.pinned (.plain (OpenSpec.upto hmacSumsSpec)) hmacSumsUptoCard

/-- THE SECOND FORM's CARD OF 'chittylaw06.DeriveKeys'. -/
def deriveKeysUptoCard : Claim7 := { stood := { row := deriveKeysUptoRow, standIns := [], harness := (true, "d317ab1675fa3a16e363678a6185963307d92010002b8084dbffbaf3b4b18b17"), looks := false }, kinds := [], alts := [], laidByText := true, laidKinds := [.data], laidTests := true, laidLooks := .later }
def DeriveKeysUptoCardSaid : Prop := Claim7.holds Tryd.pinned (.plain (OpenSpec.upto deriveKeysSpec)) deriveKeysUptoCard

/-- THE SECOND FORM's CARD OF 'chittylaw21.BindTells'. -/
def bindTellsUptoCard : Claim7 := { stood := { row := bindTellsUptoRow, standIns := [], harness := (true, "d317ab1675fa3a16e363678a6185963307d92010002b8084dbffbaf3b4b18b17"), looks := false }, kinds := [], alts := [], laidByText := true, laidKinds := [.data], laidTests := true, laidLooks := .later }
def BindTellsUptoCardSaid : Prop := Claim7.holds Tryd.pinned (.plain (OpenSpec.upto bindTellsSpec)) bindTellsUptoCard

/-- THE SECOND FORM's CARD OF 'chittylaw07.SealTells'. -/
def sealTellsUptoCard : Claim7 := { stood := { row := sealTellsUptoRow, standIns := [], harness := (true, "d317ab1675fa3a16e363678a6185963307d92010002b8084dbffbaf3b4b18b17"), looks := false }, kinds := [], alts := [], laidByText := true, laidKinds := [.data], laidTests := true, laidLooks := .later }
def SealTellsUptoCardSaid : Prop := Claim7.holds Tryd.pinned (.plain (OpenSpec.upto sealTellsSpec)) sealTellsUptoCard

/-- THE SECOND FORM's CARD OF 'chittylaw21.BindAll'. -/
def bindAllUptoCard : Claim7 := { stood := { row := bindAllUptoRow, standIns := [], harness := (true, "d317ab1675fa3a16e363678a6185963307d92010002b8084dbffbaf3b4b18b17"), looks := false }, kinds := [], alts := [], laidByText := true, laidKinds := [.data], laidTests := true, laidLooks := .later }
def BindAllUptoCardSaid : Prop := Claim7.holds Tryd.pinned (.plain (OpenSpec.upto bindAllSpec)) bindAllUptoCard

/-- THE SECOND FORM's CARD OF 'chittylaw20.ThirdAdds'. -/
def thirdAddsUptoCard : Claim7 := { stood := { row := thirdAddsUptoRow, standIns := [], harness := (true, "d317ab1675fa3a16e363678a6185963307d92010002b8084dbffbaf3b4b18b17"), looks := false }, kinds := [], alts := [], laidByText := true, laidKinds := [.data], laidTests := true, laidLooks := .later }
def ThirdAddsUptoCardSaid : Prop := Claim7.holds Tryd.pinned (.plain (OpenSpec.upto thirdAddsSpec)) thirdAddsUptoCard

/-- THE SECOND FORM's CARD OF 'chittylaw20.ThirdOpens'. -/
def thirdOpensUptoCard : Claim7 := { stood := { row := thirdOpensUptoRow, standIns := [], harness := (true, "d317ab1675fa3a16e363678a6185963307d92010002b8084dbffbaf3b4b18b17"), looks := false }, kinds := [], alts := [], laidByText := true, laidKinds := [.data], laidTests := true, laidLooks := .later }
def ThirdOpensUptoCardSaid : Prop := Claim7.holds Tryd.pinned (.plain (OpenSpec.upto thirdOpensSpec)) thirdOpensUptoCard

/-- THE SECOND FORM's CARD OF 'chittylaw26.RecipeGoesOn'. -/
def recipeGoesOnUptoCard : Claim7 := { stood := { row := recipeGoesOnUptoRow, standIns := [], harness := (true, "d317ab1675fa3a16e363678a6185963307d92010002b8084dbffbaf3b4b18b17"), looks := false }, kinds := [], alts := [], laidByText := true, laidKinds := [.data], laidTests := true, laidLooks := .later }
def RecipeGoesOnUptoCardSaid : Prop := Claim7.holds Tryd.pinned (.plain (OpenSpec.upto recipeGoesOnSpec)) recipeGoesOnUptoCard

/-- THE SECOND FORM's CARD OF 'chittylaw26.RecipeAlone'. -/
def recipeAloneUptoCard : Claim7 := { stood := { row := recipeAloneUptoRow, standIns := [], harness := (true, "d317ab1675fa3a16e363678a6185963307d92010002b8084dbffbaf3b4b18b17"), looks := false }, kinds := [], alts := [], laidByText := true, laidKinds := [.data], laidTests := true, laidLooks := .later }
def RecipeAloneUptoCardSaid : Prop := Claim7.holds Tryd.pinned (.plain (OpenSpec.upto recipeAloneSpec)) recipeAloneUptoCard
end Rows
end Go.Proofs.YtdkeflhgengblaaDoor
