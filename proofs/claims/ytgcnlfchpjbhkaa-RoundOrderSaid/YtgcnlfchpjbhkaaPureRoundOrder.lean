/- The pure law RoundOrder. Conditions: none. -/
import Derived.Test.YtgcnlfchpjbhkaaPf
