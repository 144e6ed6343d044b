/- The pure law of the queue: Stays. Conditions: none. -/
import Derived.Test.YtclblogdciebnaaPd
