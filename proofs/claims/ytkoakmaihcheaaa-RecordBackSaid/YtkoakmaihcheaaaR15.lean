/- Contracts of functions of the given program, and plain laws on what they compute: parts of the proofs of laws. -/
import Derived.Test.YtkoakmaihcheaaaR14
import Derived.Test.YtkoakmaihcheaaaR8
